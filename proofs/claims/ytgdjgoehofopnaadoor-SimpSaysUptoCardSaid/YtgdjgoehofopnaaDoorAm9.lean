/- Slices: parts, elements as cells, conversions, literals. -/
import Derived.Test.YtgdjgoehofopnaaDoorAm8
set_option linter.unusedSimpArgs false
set_option linter.unusedVariables false
set_option linter.unnecessarySimpa false
namespace Go.Am
open Go
section
variable {P : Program} {N : Nat} {V : Nat → Bool} {c0 c : Cx} {σ σ' : St} {a : Act} {w : World} {o : Oper}

abbrev boundsOK (ao : Option AO) (x : Option Operand) : Prop := match ao, x with | none, none => True | some ao, some x => opr ao x = true | _, _ => False

theorem run_slice_slice {t e : TypeId} {i : TypeInfo} {A : Option Addr} {len cap l hh : Nat} {xl xh : Option Operand} (hu : P.underlying t = some (.slice e)) (hi : P.info? e = some i) (hle : l ≤ hh) (hcap : hh ≤ cap)
    (hl : (xl = none ∧ l = 0) ∨ ∃ y k, xl = some y ∧ a.eval y = .int k (l : Int)) (hh' : (xh = none ∧ hh = len) ∨ ∃ y k, xh = some y ∧ a.eval y = .int k (hh : Int)) :
    (Instr.sliceAt t (.slice A len cap) (xl.map a.eval) (xh.map a.eval) none).run P w = .ok (.slice (if cap = l then A else A.map (·.add (l * i.size))) (hh - l) (cap - l)) w := by
  have hrun := run_sliceBounds (P := P) (w := w) (a := a) true (l := l) (h' := hh) (len := len) (cap := cap) hle hcap hl hh'
  simp only [Instr.sliceAt, Instr.slice, Sem.run_bind, run_underlying hu, Result.andThen_ok]
  rw [hrun]
  simp only [Result.andThen_ok, Sem.run_bind, run_sizeOf' hi, Sem.run_pure]

theorem goes_sll (h : Sim P N V c0 c σ a w) {sz : Nat} {aa : AO} {al ah : Option AO} {xa : Operand} {xl xh : Option Operand} {t e : TypeId} {i : TypeInfo} (ho : opr aa xa = true)
    (hl : boundsOK al xl) (hh : boundsOK ah xh) (hop : o.op = .slice t xa xl xh none) (hu : P.underlying t = some (.slice e)) (hi : P.info? e = some i) (hsz : i.size = sz) (hd : dstOK N V o.dst = true)
    (hs : stepF (.sll sz aa al ah) o.dst σ = some σ') : Goes P N V c0 σ' a w o := by
  have run : ∀ A len cap l hh, a.eval xa = .slice A len cap → l ≤ hh → hh ≤ cap → bound? σ 0 al = some l → bound? σ len ah = some hh →
      (execOp a.eval o).run P w = .ok (.value (.slice (if cap = l then A else A.map (·.add (l * sz))) (hh - l) (cap - l))) w := by
    intro A len cap l hh' hv hle hcap k1 k2
    have b1 := bound_spec h hl k1
    have b2 := bound_spec h hh k2
    have := run_slice_slice (P := P) (w := w) (a := a) (A := A) (len := len) hu hi hle hcap (by rcases b1 with ⟨_, e, f⟩ | e; exact .inl ⟨e, f⟩; exact .inr e) (by rcases b2 with ⟨_, e, f⟩ | e; exact .inl ⟨e, f⟩; exact .inr e)
    subst hsz
    simp only [execOp, hop, hv, Option.map_none, Sem.run_bind, this, Result.andThen_ok, Sem.run_pure]
  simp only [stepF] at hs
  split at hs
  · rename_i xs hx
    split at hs
    · rename_i l hh' k1 k2
      split at hs
      · rename_i hb
        obtain ⟨hb1, hb2, hb3⟩ := hb
        injection hs with hs
        subst hs
        have hr := h.val ho hx
        by_cases hemp : l = hh'
        · subst hemp
          have : (xs.drop l).take (l - l) = [] := by simp
          rw [this]
          cases hval : a.eval xa <;> rw [hval] at hr <;> try (cases hr; done)
          rename_i A len cap
          have hlen : len = xs.length ∧ xs.length ≤ cap := by cases hr <;> simp_all
          obtain ⟨rfl, hc⟩ := hlen
          refine h.goes hd (run _ _ _ l l hval hb1 (by omega) k1 k2) ?_
          rw [Nat.sub_self]
          exact .list0 _ _
        · cases hval : a.eval xa <;> rw [hval] at hr <;> cases hr
          · rename_i cap B off sz' g hbn hel hF hcell hrep hc
            have hz : sz' = sz := by
              have hm : xs[l]? = some (xs[l]'(by omega)) := List.getElem?_eq_getElem (by omega)
              have h1 := (elem_iff.1 (hel _ (List.mem_of_getElem? hm))).1
              have h2 := (elem_iff.1 (List.all_eq_true.1 hb3 _ (List.mem_of_getElem? hm))).1
              omega
            subst hz
            refine h.goes hd (run _ _ _ l hh' hval hb1 (by omega) k1 k2) ?_
            rw [if_neg (by omega), Option.map_some, Addr.add_lit]
            have hlen : ((xs.drop l).take (hh' - l)).length = hh' - l := by simp; omega
            have hel' : ∀ x ∈ (xs.drop l).take (hh' - l), x.elem sz' = true := fun x hx => hel x (List.mem_of_mem_drop (List.mem_of_mem_take hx))
            have hle : ∀ i, i < ((xs.drop l).take (hh' - l)).length * sz' → l * sz' + i < xs.length * sz' := by
              intro i hi
              rw [hlen] at hi
              have h1 : (hh' - l) * sz' + l * sz' = hh' * sz' := by rw [← Nat.add_mul]; congr 1; omega
              have h2 : hh' * sz' ≤ xs.length * sz' := Nat.mul_le_mul_right _ hb2
              omega
            have hfin := Rep.list (w := c.w) (F := c.F) (j := c.j) ((xs.drop l).take (hh' - l)) B (off + l * sz') (cap - l) sz' (fun i => g (l * sz' + i)) (by rw [hlen]; omega) (by rw [hlen]; omega) hel'
              (fun i hi => by have := hF _ (hle i hi); omega) (fun i hi => by have := hcell _ (hle i hi); rw [← Nat.add_assoc] at this; exact this) (fun i d hd' => by
                have hi : i < ((xs.drop l).take (hh' - l)).length * sz' := by
                  have := (List.getElem?_eq_some_iff.1 hd').1
                  rwa [flat_length hel'] at this
                by_cases hz : sz' = 0
                · subst hz; simp at hi
                have hq : i / sz' < hh' - l := by
                  rw [hlen] at hi
                  exact (Nat.div_lt_iff_lt_mul (by omega)).2 hi
                have hk : ((xs.drop l).take (hh' - l))[i / sz']? = some (xs[l + i / sz']'(by omega)) := by
                  rw [List.getElem?_take, if_pos hq, List.getElem?_drop, List.getElem?_eq_getElem]
                have hm : i % sz' < sz' := Nat.mod_lt _ (by omega)
                have hdm : i / sz' * sz' + i % sz' = i := by rw [Nat.mul_comm]; exact Nat.div_add_mod i sz'
                have e1 := flat_at hel' hk hm
                rw [hdm, hd'] at e1
                have e2 := flat_at hel (List.getElem?_eq_getElem (h := (show l + i / sz' < xs.length by omega))) hm
                refine hrep _ d ?_
                rw [show l * sz' + i = (l + i / sz') * sz' + i % sz' by rw [Nat.add_mul]; omega, e2]
                exact e1.symm)
            rw [hlen] at hfin
            exact hfin
          · simp at hb2
            omega
      · cases hs
    · cases hs
  · rename_i hx
    split at hs
    · rename_i k1 k2
      injection hs with hs
      subst hs
      have hr := h.val ho hx
      cases hval : a.eval xa <;> rw [hval] at hr <;> cases hr
      exact h.goes hd (run _ _ _ 0 0 hval (Nat.le_refl _) (Nat.le_refl _) k1 k2) (.list0 _ _)
    · cases hs
  · rename_i b off len sz' hx
    have hr := h.val ho hx
    cases hval : a.eval xa <;> rw [hval] at hr <;> cases hr
    rename_i cap B hj hbn hc hblk
    split at hs
    · rename_i l hh' k1 k2
      split at hs
      · rename_i hb
        obtain ⟨hb1, hb2, hz⟩ := hb
        subst hz
        injection hs with hs
        subst hs
        refine h.goes hd (run _ _ _ l hh' hval (by omega) (by omega) k1 k2) ?_
        rw [if_neg (by omega), Option.map_some, Addr.add_lit]
        obtain ⟨C, e', fr, q1, q2⟩ := hblk
        refine .ref b _ _ sz' B (cap - l) hj (by omega) (by omega) ⟨C, e', fr, q1, ?_⟩
        have : (cap - l) * sz' + l * sz' = cap * sz' := by rw [← Nat.add_mul]; congr 1; omega
        omega
      · split at hs
        · rename_i hb
          obtain ⟨rfl, hb2⟩ := hb
          injection hs with hs
          subst hs
          refine h.goes hd (run _ _ _ l l hval (Nat.le_refl _) (by omega) k1 k2) ?_
          rw [Nat.sub_self]
          exact .list0 _ _
        · cases hs
    · cases hs
  · cases hs

theorem chunks_flat {sz : Nat} : ∀ (n : Nat) (ds : List D), ds.length = n * sz → (chunks sz n ds).flatMap D.cells = ds
  | 0, ds, h => by simp at h; subst h; rfl
  | n + 1, ds, h => by
    rw [chunks, List.flatMap_cons, chunks_flat n (ds.drop sz) (by rw [List.length_drop, h, Nat.succ_mul]; omega)]
    exact List.take_append_drop sz ds
theorem chunks_length {sz : Nat} : ∀ (n : Nat) (ds : List D), (chunks sz n ds).length = n
  | 0, _ => rfl
  | n + 1, ds => by rw [chunks, List.length_cons, chunks_length n]

/-- A slice's elements, as cells. -/
structure Elems (P : Program) (w : World) (F : Nat → Nat) (j : List Nat) (sz : Nat) (xs : List D) (v : Value) (us : List Value) : Prop where
  len : us.length = xs.length * sz
  bnd : xs.length ≤ bnd
  lenOf : (Builtin.lenOf v) = pure xs.length
  first : ∀ w1 : World, w1.heap = w.heap → (Builtin.firstCells sz xs.length v).run P w1 = .ok us.toArray w1
  rep : ∀ (i : Nat) (d : D), (xs.flatMap D.cells)[i]? = some d → ∃ u, us[i]? = some u ∧ Rep w F j d u
  one : ∀ u ∈ us, u.oneCell' = true
  form : ∃ A cap, v = .slice A xs.length cap

theorem elems_one {F : Nat → Nat} {j : List Nat} {xs : List D} {us : List Value} (hel : ∀ d ∈ xs.flatMap D.cells, d.one = true) (hl : us.length = (xs.flatMap D.cells).length) (hrep : ∀ (i : Nat) (d : D), (xs.flatMap D.cells)[i]? = some d → ∃ u, us[i]? = some u ∧ Rep w F j d u) : ∀ u ∈ us, u.oneCell' = true := by
  intro u hu
  obtain ⟨i, hi⟩ := List.mem_iff_getElem?.1 hu
  have hlt := (List.getElem?_eq_some_iff.1 hi).1
  have hd : (xs.flatMap D.cells)[i]? = some ((xs.flatMap D.cells)[i]'(by omega)) := List.getElem?_eq_getElem (by omega)
  obtain ⟨u', hu', hr⟩ := hrep i _ hd
  rw [hi] at hu'
  cases hu'
  exact hr.one (hel _ (List.mem_of_getElem? hd))

theorem cell?_heap {w1 : World} (h : w1.heap = w.heap) (x : Addr) : w1.cell? x = w.cell? x := by simp [World.cell?, h]

theorem Sim.elems (h : Sim P N V c0 c σ a w) {sz : Nat} {d : D} {v : Value} {xs : List D} (hr : Rep c.w c.F c.j d v) (hx : σ.elems sz d = some xs) (hel : ∀ x ∈ xs, x.elem sz = true) :
    ∃ us, Elems P w c.F c.j sz xs v us := by
  have hw := h.hw
  subst hw
  have hone : ∀ y ∈ xs.flatMap D.cells, y.one = true := by
    intro y hy
    obtain ⟨x, hx, hy⟩ := List.mem_flatMap.1 hy
    exact (elem_iff.1 (hel x hx)).2.2 y hy
  have mk : ∀ (A : Addr) (cap : Nat) (us : List Value), us.length = xs.length * sz → xs.length ≤ Am.bnd → v = .slice (some A) xs.length cap → (∀ k u, us[k]? = some u → c.w.cell? (A.add k) = some u) → (∀ (i : Nat) (d : D), (xs.flatMap D.cells)[i]? = some d → ∃ u, us[i]? = some u ∧ Rep c.w c.F c.j d u) →
      Elems P c.w c.F c.j sz xs v us := by
    rintro A cap us h1 h2 rfl h4 h5
    refine ⟨h1, h2, rfl, fun w1 hw1 => ?_, h5, elems_one hone (by rw [h1, flat_length hel]) h5, ⟨_, _, rfl⟩⟩
    exact run_firstCells_some w1 sz _ A _ cap us h1 (fun j u hu => by rw [cell?_heap hw1]; exact h4 j u hu)
  have nil : ∀ A cap, v = .slice A 0 cap → xs = [] → ∃ us, Elems P c.w c.F c.j sz xs v us := by
    rintro A cap rfl rfl
    refine ⟨[], by simp, by simp [Am.bnd], rfl, fun w1 hw1 => ?_, by simp, by simp, ⟨_, _, rfl⟩⟩
    cases A
    · simp [Builtin.firstCells]
    · simp [Builtin.firstCells, loadCells, loadCellsFrom]
  unfold St.elems at hx
  split at hx
  · rename_i ys
    injection hx with hx
    subst hx
    cases hr with
    | list _ B off cap sz' g hc hb hel' hF hcell hrep =>
      rcases ys with _ | ⟨y, ys⟩
      · exact nil _ _ rfl rfl
      have hz : sz' = sz := by rw [← (elem_iff.1 (hel' y List.mem_cons_self)).1, (elem_iff.1 (hel y List.mem_cons_self)).1]
      subst hz
      refine ⟨(List.range ((y :: ys).length * sz')).map g, mk ⟨B, off, none⟩ cap _ (by simp) hb rfl (fun k u hu => ?_) (fun i d hd => ?_)⟩
      · rw [List.getElem?_map, Option.map_eq_some_iff] at hu
        obtain ⟨k', hk, rfl⟩ := hu
        obtain ⟨hlt, rfl⟩ := List.getElem?_eq_some_iff.1 hk
        simp only [List.length_range] at hlt
        rw [Addr.add_lit, List.getElem_range]
        exact hcell k hlt
      · have hi := (List.getElem?_eq_some_iff.1 hd).1
        rw [flat_length hel'] at hi
        exact ⟨g i, by rw [List.getElem?_map, List.getElem?_range hi]; rfl, hrep i d hd⟩
    | list0 A cap => exact nil _ _ rfl rfl
  · rename_i e ys
    injection hx with hx
    subst hx
    cases hr
    exact nil _ _ rfl rfl
  · injection hx with hx
    subst hx
    cases hr
    exact nil _ _ rfl rfl
  · rename_i b off len sz'
    split at hx
    · rename_i hsz
      subst hsz
      split at hx
      · rename_i cs hob
        split at hx
        · rename_i ds hcut
          obtain ⟨B, hB, hblk⟩ := h.obj hob
          obtain ⟨k1, k2⟩ := hblk.rd hcut
          cases hr with
          | ref _ _ _ _ B' cap hj hc hbn hbl =>
          rw [hB] at hj
          cases hj
          obtain ⟨us, q1, q2, q3⟩ := cells_list (w := c.w) (F := c.F) (j := c.j) B off (cs := ds) (fun i d hd => by
            obtain ⟨p1, u, p2, p3⟩ := k2 i d hd
            exact ⟨p1, u, p2, p3.copy⟩)
          have hflat : xs.flatMap D.cells = ds.map D.copy ∧ xs.length = len := by
            split at hx
            · rename_i h1
              injection hx with hx
              subst hx
              refine ⟨?_, by rw [List.length_map, k1, h1, Nat.mul_one]⟩
              have hid : ∀ l : List D, (∀ x ∈ l, x.cells = [x]) → l.flatMap D.cells = l := by
                intro l
                induction l with
                | nil => intro _; rfl
                | cons y l ih =>
                  intro hy
                  rw [List.flatMap_cons, hy y List.mem_cons_self, ih (fun x hx => hy x (List.mem_cons_of_mem _ hx))]
                  rfl
              refine hid _ fun x hx => ?_
              rw [List.mem_map] at hx
              obtain ⟨y, hy, rfl⟩ := hx
              obtain ⟨i, hi⟩ := List.mem_iff_getElem?.1 hy
              have := (k2 i y hi).1
              cases y <;> first | rfl | cases this
            · injection hx with hx
              subst hx
              exact ⟨chunks_flat _ _ (by rw [List.length_map, k1]), chunks_length _ _⟩
          refine ⟨us, mk ⟨B, off, none⟩ cap us (by rw [q1, k1, hflat.2]) (by rw [hflat.2]; exact hbn) (by rw [hflat.2]) q2 (fun i d hd => ?_)⟩
          rw [hflat.1, List.getElem?_map, Option.map_eq_some_iff] at hd
          obtain ⟨y, hy, rfl⟩ := hd
          have hlt := (List.getElem?_eq_some_iff.1 hy).1
          exact ⟨_, List.getElem?_eq_getElem (by omega), q3 i y _ hy (List.getElem?_eq_getElem (by omega))⟩
        · cases hx
      · cases hx
    · cases hx
  · cases hx

end
end Go.Am
