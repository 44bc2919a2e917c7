/- Stores; places within places; elements. -/
import Derived.Test.YtgdjgoehofopnaaDoorAm6
set_option linter.unusedSimpArgs false
set_option linter.unusedVariables false
set_option linter.unnecessarySimpa false
namespace Go.Am
open Go
section
variable {P : Program} {N : Nat} {V : Nat → Bool} {c0 c : Cx} {σ σ' : St} {a : Act} {w : World} {o : Oper}

theorem splice_spec {cs ds cs' : List D} {off : Nat} (h : splice cs off ds = some cs') : off + ds.length ≤ cs.length ∧ cs'.length = cs.length ∧
    ∀ i, cs'[i]? = if off ≤ i ∧ i < off + ds.length then ds[i - off]? else cs[i]? := by
  unfold splice at h
  split at h
  · rename_i hl
    injection h with h
    subst h
    refine ⟨hl, by simp; omega, fun i => ?_⟩
    by_cases h1 : i < off
    · rw [if_neg (by omega), List.append_assoc, List.getElem?_append_left (by simp; omega), List.getElem?_take, if_pos h1]
    · by_cases h2 : i < off + ds.length
      · rw [if_pos ⟨by omega, h2⟩, List.getElem?_append_left (by simp; omega), List.getElem?_append_right (by simp; omega)]
        congr 1
        simp
        omega
      · rw [if_neg (by omega), List.getElem?_append_right (by simp; omega), List.getElem?_drop]
        congr 1
        simp
        omega
  · cases h

theorem arr_splice (C : Array Value) (off : Nat) (vs : List Value) (h : off + vs.length ≤ C.size) : (C.toList.take off ++ vs ++ C.toList.drop (off + vs.length)).toArray.size = C.size ∧
    ∀ i, (C.toList.take off ++ vs ++ C.toList.drop (off + vs.length)).toArray[i]? = if off ≤ i ∧ i < off + vs.length then vs[i - off]? else C[i]? := by
  refine ⟨by simp; omega, fun i => ?_⟩
  simp only [List.getElem?_toArray]
  by_cases h1 : i < off
  · rw [if_neg (by omega), List.append_assoc, List.getElem?_append_left (by simp; omega), List.getElem?_take, if_pos h1]
    simp
  · by_cases h2 : i < off + vs.length
    · rw [if_pos ⟨by omega, h2⟩, List.getElem?_append_left (by simp; omega), List.getElem?_append_right (by simp; omega)]
      congr 1
      simp
      omega
    · rw [if_neg (by omega), List.getElem?_append_right (by simp; omega), List.getElem?_drop]
      simp only [Array.getElem?_toList]
      congr 1
      simp
      omega

/-- A block is written: its owner alone sees it. -/
def Cx.row (c : Cx) (B : Nat) (C : Array Value) : Cx := { c with w := c.w.setRow B C }

theorem Cx.row_spec (hw : Wf c) {B : Nat} {C C' : Array Value} {e : TypeId} {ow : Owner} (hB : c.w.heap[B]? = some (.cells C e (0, 0))) (hF : c.F B = 0) (hO : c.O B = some ow) (hs : C'.size = C.size) :
    Fr c (c.row B C') ∧ Wf (c.row B C') ∧ Keeps c (c.row B C') (fun x => x = ow) := by
  have hold : ∀ k, k ≠ B → (c.w.setRow B C').heap[k]? = c.w.heap[k]? := fun k hk => setRow_other _ _ _ _ hk
  refine ⟨⟨rfl, rfl, rfl, ⟨by simp [Cx.row], fun _ => Nat.le_refl _, fun k i v hi hv => ?_, fun k D e' fr hk => ?_, fun _ _ h => h⟩, fun k hk hO' => ⟨?_, rfl, hO'⟩⟩, fun k hk => hw k (by simpa [Cx.row] using hk), fun k o' hk hx => ⟨?_, rfl, rfl⟩⟩
  · have : k ≠ B := by rintro rfl; rw [hF] at hi; omega
    exact (World.cell?_of_block (w := c.w) (a := ⟨k, i, none⟩) (hold k this)).trans hv
  · by_cases e'' : k = B
    · subst e''
      rw [hB] at hk
      cases hk
      exact ⟨C', e, (0, 0), setRow_heap _ _ _ _ _ _ hB, by omega⟩
    · exact ⟨D, e', fr, (hold k e'').trans hk, Nat.le_refl _⟩
  · exact hold k (by rintro rfl; rw [hO] at hO'; cases hO')
  · refine hold k ?_
    rintro rfl
    rw [hO] at hk
    injection hk with hk
    exact hx hk.symm

/-- Cells are put into a block. -/
theorem BlockRel.wr {B : Nat} {ow : Owner} {oc : Nat → Owner} {cs0 cs' ds : List D} {off : Nat} {vs : List Value} (hw : Wf c) (hb : BlockRel P c B ow oc cs0) (hsp : splice cs0 off ds = some cs')
    (hl : vs.length = ds.length) (hone : ∀ d ∈ ds, d.one = true) (hv : ∀ (i : Nat) (d : D) (u : Value), ds[i]? = some d → vs[i]? = some u → CellRel P c (oc (off + i)) d u) (hne : ∀ i, oc i ≠ ow) :
    ∃ C e, c.w.heap[B]? = some (.cells C e (0, 0)) ∧ off + vs.length ≤ C.size ∧
      let c' := c.row B (C.toList.take off ++ vs ++ C.toList.drop (off + vs.length)).toArray
      Fr c c' ∧ Wf c' ∧ Keeps c c' (fun x => x = ow) ∧ BlockRel P c' B ow oc cs' := by
  obtain ⟨C, e, h1, h2, h3, h4, h5⟩ := hb
  obtain ⟨s1, s2, s3⟩ := splice_spec hsp
  have hfit : off + vs.length ≤ C.size := by omega
  obtain ⟨q1, q2⟩ := arr_splice C off vs hfit
  obtain ⟨k1, k2, k3⟩ := Cx.row_spec hw h1 h4 h3 q1
  refine ⟨C, e, h1, hfit, k1, k2, k3, _, e, setRow_heap _ _ _ _ _ _ h1, by rw [q1]; omega, h3, h4, fun i d hd => ?_⟩
  rw [s3] at hd
  rw [q2]
  split at hd
  · rename_i hi
    rw [if_pos (by omega)]
    have hlt : i - off < ds.length := by omega
    have hu : vs[i - off]? = some (vs[i - off]'(by omega)) := List.getElem?_eq_getElem (by omega)
    refine ⟨hone d (List.mem_of_getElem? hd), _, hu, ?_⟩
    have := hv (i - off) d _ hd hu
    rw [show off + (i - off) = i by omega] at this
    exact this.keeps (X := fun x => x = ow) k1.le k3 (hne i)
  · rename_i hi
    rw [if_neg (by omega)]
    obtain ⟨p1, u, p2, p3⟩ := h5 i d hd
    exact ⟨p1, u, p2, p3.keeps (X := fun x => x = ow) k1.le k3 (hne i)⟩

theorem run_storeVar {t : TypeId} {i : TypeInfo} {B off : Nat} {v : Value} {C : Array Value} {e : TypeId} (hi : P.info? t = some i) (hB : w.heap[B]? = some (.cells C e (0, 0))) (hl : v.cells.size = i.size) (hfit : off + v.cells.toList.length ≤ C.size)
    (h1 : ∀ u ∈ v.cells.toList, u.oneCell' = true) : (storeVar t ⟨B, off, none⟩ v).run P w = .ok () (w.setRow B (C.toList.take off ++ v.cells.toList ++ C.toList.drop (off + v.cells.toList.length)).toArray) := by
  have := run_storeCells_at P B off e v.cells.toList 0 C w hB (by simpa using hfit) h1
  simp only [Nat.add_zero] at this
  simp only [storeVar, Sem.run_bind, run_sizeOf' hi, Result.andThen_ok, hl, ne_eq, not_true_eq_false, if_false]
  exact this

/-- The cells of what is handed on. -/
theorem CellRel.cells {ow : Owner} {oc : Nat → Owner} {off : Nat} {d : D} {v : Value} (h : CellRel P c (oc off) d v) (hone : d.cells.all D.one = true) :
    v.cells.size = d.cells.length ∧ (∀ u ∈ v.cells.toList, u.oneCell' = true) ∧ ∀ (i : Nat) (x : D) (u : Value), d.cells[i]? = some x → v.cells.toList[i]? = some u → CellRel P c (oc (off + i)) x u := by
  by_cases ho : ∃ e xs, d = .own e xs
  · obtain ⟨e, xs, rfl⟩ := ho
    have hv : v.cells = #[v] ∧ v.oneCell' = true := by
      have hr : OwnRel P c (oc off) e xs v := h
      rcases hr with ⟨_, rfl⟩ | ⟨sz, us, _, _, hown, _⟩
      · exact ⟨rfl, rfl⟩
      · rcases hown.2 with ⟨rfl, _⟩ | ⟨g, cap, cur, rfl, _⟩ <;> exact ⟨rfl, rfl⟩
    rw [hv.1]
    refine ⟨rfl, by simpa using hv.2, fun i x u hx hu => ?_⟩
    match i with
    | 0 => simp [D.cells] at hx hu; subst hx; subst hu; exact h
    | i + 1 => simp [D.cells] at hx
  · have hr : Rep c.w c.F c.j d v := by
      unfold CellRel at h
      split at h
      · exact absurd ⟨_, _, rfl⟩ ho
      · exact h
    obtain ⟨k1, k2⟩ := rep_cells_of hr hone
    refine ⟨k1, fun u hu => ?_, fun i x u hx hu => ?_⟩
    · obtain ⟨i, hi⟩ := List.mem_iff_getElem?.1 hu
      have hlt := (List.getElem?_eq_some_iff.1 hi).1
      simp only [Array.length_toList] at hlt
      obtain ⟨u', hu', hr'⟩ := k2 i _ (List.getElem?_eq_getElem (by omega))
      have : u' = u := by
        have hi' : v.cells[i]? = some u := by simpa using hi
        rw [hi'] at hu'
        exact (Option.some.inj hu').symm
      subst this
      exact hr'.one (List.all_eq_true.1 hone _ (List.getElem_mem _))
    · obtain ⟨u', hu', hr'⟩ := k2 i x hx
      have : u' = u := by
        have hi' : v.cells[i]? = some u := by simpa using hu
        rw [hi'] at hu'
        exact (Option.some.inj hu').symm
      subst this
      exact CellRel.of_rep hr'

/-- A variable's cells are other ones. -/
theorem Sim.setVar {c' : Cx} (h : Sim P N V c0 c σ a w) {n B : Nat} {cs cs' : List D} (hn : σ.env n = .var cs) (hf : Fr c c') (hw : Wf c') (hk : Keeps c c' (fun x => x = .var n)) (hj : c'.j = c.j)
    (hB : tmOf a n = .pointer (some ⟨B, 0, none⟩)) (hb : BlockRel P c' B (.var n) (.vc n) cs') : Sim P N V c0 c' { σ with env := upd σ.env n (.var cs') } a c'.w := by
  refine ⟨rfl, hw, h.fr.trans hf, h.size, fun m hm => ?_, fun m cs'' hm => ?_, fun m t off hm => ?_, fun m => ?_, h.H.keeps hf.le hk hj (by simp) (by simp), h.dfr⟩
  · show upd σ.env n _ m = .und
    rw [upd]
    split
    · rename_i e; subst e; have := h.out m hm; rw [hn] at this; cases this
    · exact h.out m hm
  · have hm' : upd σ.env n (.var cs') m = .var cs'' := hm
    rw [upd] at hm'
    split at hm'
    · rename_i e; rw [e]; exact h.vars n cs hn
    · exact h.vars m cs'' hm'
  · have hm' : upd σ.env n (.var cs') m = .loc t off := hm
    rw [upd] at hm'
    split at hm'
    · cases hm'
    · exact h.locs m t off hm'
  · show SlotRel P _ _ m (upd σ.env n (.var cs') m) _
    rw [upd]
    split
    · rename_i e; subst e
      exact ⟨B, hB, hb⟩
    · rename_i e
      exact (h.slots m).keeps hf.le hk (by simp) (by simp [e]) (by simp)

/-- An object's cells are other ones. -/
theorem Sim.setObj {c' : Cx} (h : Sim P N V c0 c σ a w) {b B : Nat} {cs' : List D} (hf : Fr c c') (hw : Wf c') (hk : Keeps c c' (fun x => x = .ob b)) (hj : c'.j = c.j)
    (hB : c.j[b]? = some B) (hb : BlockRel P c' B (.ob b) (.oc b) cs') : Sim P N V c0 c' { σ with H := σ.H.set b (some cs') } a c'.w := by
  refine ⟨rfl, hw, h.fr.trans hf, h.size, h.out, h.vars, h.locs, fun m => (h.slots m).keeps hf.le hk (by simp) (by simp) (by simp), ⟨?_, fun b' cs hb' => ?_⟩, h.dfr⟩
  · rw [hj, List.length_set]; exact h.H.1
  · by_cases e : b' = b
    · subst e
      rw [List.getElem?_set_self'] at hb'
      cases hσ : σ.H[b']? with
      | none => rw [hσ] at hb'; cases hb'
      | some o' =>
        rw [hσ] at hb'
        simp at hb'
        subst hb'
        exact ⟨B, by rw [hj]; exact hB, hb⟩
    · rw [List.getElem?_set_ne (by omega)] at hb'
      obtain ⟨B', q1, q2⟩ := h.H.2 b' cs hb'
      exact ⟨B', by rw [hj]; exact q1, q2.keeps hf.le hk (by simp [e]) (by simp)⟩

theorem goes_st (h : Sim P N V c0 c σ a w) {n sz : Nat} {ao : AO} {xp x : Operand} {t : TypeId} {i : TypeInfo} (hp : opr (.t n) xp = true) (ho : opr ao x = true) (hop : o.op = .store t xp x) (hi : P.info? t = some i) (hsz : i.size = sz) (hd : o.dst = none)
    (hs : stepF (.st sz n ao) o.dst σ = some σ') : Goes P N V c0 σ' a w o := by
  simp only [stepF] at hs
  split at hs
  · rename_i l d hl hg
    split at hs
    · rename_i hc
      rw [Bool.and_eq_true, decide_eq_true_eq] at hc
      obtain ⟨hc1, hc2⟩ := hc
      have hlv := (h.lv hl).1
      have hex : execOp a.eval o = (do Instr.storeAt t (tmOf a n) (a.eval x); pure .skip) := by simp [execOp, hop, opr_tmp (.inl hp) a]
      have fin : ∀ c1 : Cx, ∀ B off C e, Sim P N V c0 c1 (σ.spend ao) a w → tmOf a n = .pointer (some ⟨B, off, none⟩) → c1.w.heap[B]? = some (.cells C e (0, 0)) → off + (a.eval x).cells.toList.length ≤ C.size → (a.eval x).cells.size = d.cells.length → (∀ u ∈ (a.eval x).cells.toList, u.oneCell' = true) →
          Sim P N V c0 (c1.row B (C.toList.take off ++ (a.eval x).cells.toList ++ C.toList.drop (off + (a.eval x).cells.toList.length)).toArray) σ' a (c1.row B (C.toList.take off ++ (a.eval x).cells.toList ++ C.toList.drop (off + (a.eval x).cells.toList.length)).toArray).w → Goes P N V c0 σ' a w o := by
        intro c1 B off C e h1 hptr hB hfit hcs hone hsim
        have hw1 := h1.hw
        rw [hw1] at hB
        have hrun := run_storeVar (P := P) (w := w) (t := t) (v := a.eval x) hi hB (by omega) hfit hone
        have hrun' : (execOp a.eval o).run P w = .ok .skip (c1.row B (C.toList.take off ++ (a.eval x).cells.toList ++ C.toList.drop (off + (a.eval x).cells.toList.length)).toArray).w := by
          rw [hex, hptr]
          simp only [Instr.storeAt, Instr.sureAddr, Sem.run_bind, Sem.run_pure, Result.andThen_ok, hrun]
          simp only [Cx.row, hw1]
        have ea : a.put o.dst undef = a := by rw [hd]; rfl
        generalize (c1.row B (C.toList.take off ++ (a.eval x).cells.toList ++ C.toList.drop (off + (a.eval x).cells.toList.length)).toArray) = c2 at hsim hrun'
        exact ⟨c2, c2.w, .inr ⟨hrun', by rw [ea]; exact hsim⟩⟩
      cases l with
      | var tv off =>
        obtain ⟨c1, h1, h2, _⟩ := h.hands ho hg (.vc tv off)
        obtain ⟨B, q1, q2⟩ := hlv
        simp only [St.wr] at hs
        split at hs
        · rename_i cs0 he
          split at hs
          · rename_i cs' hsp
            injection hs with hs
            have hsl := h1.slots tv
            rw [he] at hsl
            obtain ⟨B', q3, hb⟩ := hsl
            rw [q1] at q3
            cases q3
            obtain ⟨k1, k2, k3⟩ := CellRel.cells (ow := .var tv) (oc := .vc tv) h2 hc2
            obtain ⟨C, e, p1, p2, p3, p4, p5, p6⟩ := hb.wr h1.wf hsp (vs := (a.eval x).cells.toList) (by simpa using k1) (fun y hy => List.all_eq_true.1 hc2 y hy) (fun i y u hy hu => k3 i y u hy hu) (by simp)
            subst hs
            exact fin c1 B off C e h1 q2 p1 p2 k1 k2 (h1.setVar he p3 p4 p5 rfl q1 p6)
          · cases hs
        · cases hs
      | obj b off =>
        obtain ⟨c1, h1, h2, hcg⟩ := h.hands ho hg (.oc b off)
        simp only [St.wr] at hs
        split at hs
        · rename_i cs0 he
          split at hs
          · rename_i cs' hsp
            injection hs with hs
            obtain ⟨B, q1, hb⟩ := h1.obj he
            have hj : c1.j = c.j := by rcases hcg with rfl | ⟨v, rfl⟩ <;> rfl
            have hlv' : Rep c.w c.F c.j (.ptr b off) (tmOf a n) := hlv
            have q2 : tmOf a n = .pointer (some ⟨B, off, none⟩) := by
              cases hv : tmOf a n <;> rw [hv] at hlv' <;> cases hlv'
              rename_i B' hB'
              rw [← hj, q1] at hB'
              cases hB'
              rfl
            obtain ⟨k1, k2, k3⟩ := CellRel.cells (ow := .ob b) (oc := .oc b) h2 hc2
            obtain ⟨C, e, p1, p2, p3, p4, p5, p6⟩ := hb.wr h1.wf hsp (vs := (a.eval x).cells.toList) (by simpa using k1) (fun y hy => List.all_eq_true.1 hc2 y hy) (fun i y u hy hu => k3 i y u hy hu) (by simp)
            subst hs
            exact fin c1 B off C e h1 q2 p1 p2 k1 k2 (h1.setObj p3 p4 p5 rfl q1 p6)
          · cases hs
        · cases hs
      | imm cs => simp [St.wr] at hs
    · cases hs
  · cases hs

end
end Go.Am
