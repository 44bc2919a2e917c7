/- Operations that make, read and write memory. -/
import Derived.Test.YtgdjgoehofopnaaDoorAm5
set_option linter.unusedSimpArgs false
set_option linter.unusedVariables false
set_option linter.unnecessarySimpa false
namespace Go.Am
open Go
section
variable {P : Program} {N : Nat} {V : Nat → Bool} {c0 c : Cx} {σ σ' : St} {a : Act} {w : World} {o : Oper}

/-- A new block. -/
def Cx.new (c : Cx) (C : Array Value) (e : TypeId) (k : Nat) (o : Option Owner) : Cx :=
  { w := c.w.alloc (.cells C e), F := fun B => if B = c.w.heap.size then k else c.F B, j := c.j, O := fun B => if B = c.w.heap.size then o else c.O B }

theorem Cx.new_spec (hw : Wf c) (C : Array Value) (e : TypeId) (k : Nat) (o : Option Owner) : Fr c (c.new C e k o) ∧ Wf (c.new C e k o) ∧ Keeps c (c.new C e k o) (fun _ => False) ∧
    (c.new C e k o).w.heap[c.w.heap.size]? = some (.cells C e (0, 0)) := by
  have hnew : (c.w.alloc (.cells C e)).heap[c.w.heap.size]? = some (.cells C e (0, 0)) := heap_alloc_new _ _
  have hold : ∀ B, B < c.w.heap.size → (c.w.alloc (.cells C e)).heap[B]? = c.w.heap[B]? := fun B hB => RowKit.Below.heap_alloc _ _ B hB
  refine ⟨⟨rfl, rfl, rfl, ⟨by simp [Cx.new], fun B => ?_, fun B i v hi hv => ?_, fun B C' e' fr hB => ?_, fun _ _ h => h⟩, fun B hB hO => ⟨hold B hB, if_neg (by omega), ?_⟩⟩, fun B hB => ?_, fun B o' hB _ => ?_, hnew⟩
  · show c.F B ≤ if B = c.w.heap.size then k else c.F B
    split
    · rename_i e; rw [(hw B (by omega)).2]; omega
    · omega
  · have hlt : B < c.w.heap.size := by
      rcases Nat.lt_or_ge B c.w.heap.size with h | h
      · exact h
      · rw [(hw B h).2] at hi; omega
    exact (World.cell?_of_block (w := c.w) (a := ⟨B, i, none⟩) (hold B hlt)).trans hv
  · have hlt : B < c.w.heap.size := (Array.getElem?_eq_some_iff.1 hB).1
    exact ⟨C', e', fr, (hold B hlt).trans hB, Nat.le_refl _⟩
  · show (if B = c.w.heap.size then o else c.O B) = none
    rw [if_neg (by omega)]; exact hO
  · have hB' : c.w.heap.size + 1 ≤ B := by simpa [Cx.new] using hB
    refine ⟨?_, ?_⟩
    · show (if B = c.w.heap.size then o else c.O B) = none
      rw [if_neg (by omega)]; exact (hw B (by omega)).1
    · show (if B = c.w.heap.size then k else c.F B) = 0
      rw [if_neg (by omega)]; exact (hw B (by omega)).2
  · have hlt : B < c.w.heap.size := by
      rcases Nat.lt_or_ge B c.w.heap.size with h | h
      · exact h
      · rw [(hw B h).1] at hB; cases hB
    exact ⟨hold B hlt, if_neg (by omega), if_neg (by omega)⟩

/-- A draw changes nothing that is told. -/
def Cx.drew (c : Cx) : Cx := { c with w := c.w.drew }
theorem Cx.drew_spec (hw : Wf c) : Fr c c.drew ∧ Wf c.drew ∧ Keeps c c.drew (fun _ => False) :=
  ⟨⟨rfl, rfl, rfl, ⟨Nat.le_refl _, fun _ => Nat.le_refl _, fun _ _ _ _ h => h, fun _ C e fr h => ⟨C, e, fr, h, Nat.le_refl _⟩, fun _ _ h => h⟩, fun _ _ h => ⟨rfl, rfl, h⟩⟩, hw, fun _ _ _ _ => ⟨rfl, rfl, rfl⟩⟩

theorem rep_cells_of {F : Nat → Nat} {j : List Nat} {d : D} {v : Value} (h : Rep w F j d v) (ho : d.cells.all D.one = true) :
    v.cells.size = d.cells.length ∧ ∀ (i : Nat) (x : D), d.cells[i]? = some x → ∃ u, v.cells[i]? = some u ∧ Rep w F j x u := by
  have ht : ∀ ds, d ≠ .tup ds := by
    rintro ds rfl
    simp [D.cells, D.one] at ho
  obtain ⟨h1, h2⟩ := h.cells ht
  refine ⟨h1, fun i x hx => ?_⟩
  have hlt := (List.getElem?_eq_some_iff.1 hx).1
  have hv : v.cells[i]? = some (v.cells[i]'(by omega)) := Array.getElem?_eq_getElem (by omega)
  exact ⟨_, hv, h2 i x _ hx hv⟩

/-- A variable of the call's own is made. -/
theorem Sim.newVar (h : Sim P N V c0 c σ a w) {n : Nat} (hn : n < N) (hV : V n = true) {t : TypeId} {C : Array Value} {cs : List D} (hl : cs.length = C.size) (h1 : ∀ d ∈ cs, d.one = true)
    (hr : ∀ (i : Nat) (d : D), cs[i]? = some d → ∃ u, C[i]? = some u ∧ Rep c.w c.F c.j d u) :
    ∃ c', Sim P N V c0 c' { σ with env := updv σ.env n cs } (a.put (some n) (.pointer (some ⟨w.heap.size, 0, none⟩))) (w.alloc (.cells C t)) := by
  have hw := h.hw
  subst hw
  obtain ⟨k1, k2, k3, k4⟩ := Cx.new_spec (c := c) h.wf C t 0 (some (.var n))
  have hna : n < a.tmps.size := by rw [h.size]; exact hn
  refine ⟨c.new C t 0 (some (.var n)), ⟨rfl, k2, h.fr.trans k1, by simpa [Act.put] using h.size, fun m hm => ?_, fun m cs' hm => ?_, fun m t' off hm => ?_, fun m => ?_, h.H.keeps k1.le k3 rfl (by simp) (by simp), h.dfr⟩⟩
  · show updv σ.env n cs m = .und
    rw [updv, if_neg (by omega), h.out m hm]
    rfl
  · have hm' : updv σ.env n cs m = .var cs' := hm
    rw [updv] at hm'
    split at hm'
    · rename_i e; rw [e]; exact hV
    · cases hs : σ.env m <;> rw [hs] at hm' <;> simp only [inval] at hm' <;> try (cases hm'; done)
      · exact h.vars m _ hs
      · split at hm' <;> cases hm'
  · have hm' : updv σ.env n cs m = .loc t' off := hm
    rw [updv] at hm'
    split at hm'
    · cases hm'
    · cases hs : σ.env m <;> rw [hs] at hm' <;> simp only [inval] at hm' <;> try (cases hm'; done)
      split at hm'
      · cases hm'
      · cases hm'; exact h.locs m _ _ hs
  · show SlotRel P _ _ m (updv σ.env n cs m) _
    rw [Act.tm_put a n m _ hna, updv]
    by_cases e : m = n
    · subst e
      rw [if_pos rfl, if_pos rfl]
      refine ⟨c.w.heap.size, rfl, C, t, k4, by omega, if_pos rfl, if_pos rfl, fun i d hd => ?_⟩
      obtain ⟨u, hu, hr'⟩ := hr i d hd
      exact ⟨h1 d (List.mem_of_getElem? hd), u, hu, CellRel.of_rep (hr'.le k1.le)⟩
    · rw [if_neg e, if_neg e]
      have := (h.slots m).keeps k1.le k3 (by simp) (by simp) (by simp)
      cases hs : σ.env m with
      | und => trivial
      | no => rw [hs] at this; exact this
      | d x => rw [hs] at this; exact this
      | var cs' => rw [hs] at this; exact this
      | loc t' off =>
        rw [hs] at this
        simp only [inval]
        split
        · trivial
        · rename_i e'
          obtain ⟨B, q1, q2⟩ := this
          exact ⟨B, by rw [Act.tm_put a n t' _ hna, if_neg e']; exact q1, q2⟩

theorem copies_rep {F : Nat → Nat} {j : List Nat} {cs : List D} {C : Array Value} (hr : ∀ (i : Nat) (d : D), cs[i]? = some d → ∃ u, C[i]? = some u ∧ Rep w F j d u) :
    ∀ (i : Nat) (d : D), (cs.map D.copy)[i]? = some d → ∃ u, C[i]? = some u ∧ Rep w F j d u := by
  intro i d hd
  rw [List.getElem?_map, Option.map_eq_some_iff] at hd
  obtain ⟨d', hd', rfl⟩ := hd
  obtain ⟨u, hu, hr'⟩ := hr i d' hd'
  exact ⟨u, hu, hr'.copy⟩

theorem goes_box (h : Sim P N V c0 c σ a w) {aa : AO} {xa : Operand} {t : TypeId} {n : Nat} (ho : opr aa xa = true) (hop : o.op = .box t xa) (hdst : o.dst = some n) (hn : n < N) (hV : V n = true)
    (hs : stepF (.box aa) o.dst σ = some σ') : Goes P N V c0 σ' a w o := by
  rw [hdst] at hs
  simp only [stepF] at hs
  split at hs
  · rename_i n' d hn' h1
    cases hn'
    split at hs
    · rename_i hone
      injection hs with hs
      subst hs
      obtain ⟨k1, k2⟩ := rep_cells_of (h.val ho h1) hone
      obtain ⟨c', hc'⟩ := h.newVar (t := t) hn hV (C := (a.eval xa).cells) (cs := d.cells.map D.copy) (by simpa using k1.symm)
        (by intro x hx; rw [List.mem_map] at hx; obtain ⟨y, hy, rfl⟩ := hx; rw [copy_one]; exact List.all_eq_true.1 hone y hy) (copies_rep k2)
      refine ⟨c', _, .inl ⟨_, ?_, by rw [hdst]; exact hc'⟩⟩
      simp [execOp, hop, Instr.box, newVar, newRow]
    · cases hs
  · cases hs

theorem goes_alloc (h : Sim P N V c0 c σ a w) {t : TypeId} {n : Nat} {z : List D} {i : TypeInfo} {zv : Value} (hi : P.info? t = some i) (hz : i.zero = some zv) (hzc : constsOK z zv.cells.toList = true) (hop : o.op = .alloc t) (hdst : o.dst = some n) (hn : n < N) (hV : V n = true)
    (hs : stepF (.alloc z) o.dst σ = some σ') : Goes P N V c0 σ' a w o := by
  rw [hdst] at hs
  simp only [stepF] at hs
  injection hs with hs
  subst hs
  obtain ⟨k1, k2, k3⟩ := constsOK_rep (w := c.w) (F := c.F) (j := c.j) hzc
  obtain ⟨c', hc'⟩ := h.newVar (t := t) hn hV (C := zv.cells) (cs := z) (by simpa using k1) k2 (fun i d hd => by
    have hlt := (List.getElem?_eq_some_iff.1 hd).1
    have hv : zv.cells[i]? = some (zv.cells[i]'(by simp at k1; omega)) := Array.getElem?_eq_getElem _
    exact ⟨_, hv, k3 i d _ hd (by simpa using hv)⟩)
  refine ⟨c', _, .inl ⟨_, ?_, by rw [hdst]; exact hc'⟩⟩
  simp [execOp, hop, Instr.alloc, zeroValue, typeInfo, hi, hz, newVar, newRow]

/-- What a place is. -/
def LvRel (c : Cx) (tm : Nat → Value) : Lv → Value → Prop
  | .var t off, v => ∃ B, tm t = .pointer (some ⟨B, 0, none⟩) ∧ v = .pointer (some ⟨B, off, none⟩)
  | .obj b off, v => Rep c.w c.F c.j (.ptr b off) v
  | .imm cs, v => Rep c.w c.F c.j (.imm cs) v

theorem Sim.lv (h : Sim P N V c0 c σ a w) {n : Nat} {l : Lv} (hl : σ.lv n = some l) : LvRel c (tmOf a) l (tmOf a n) ∧ ∀ t off, l = .var t off → V t = true := by
  have hs := h.slots n
  unfold St.lv at hl
  split at hl
  · rename_i cs he
    rw [he] at hs
    injection hl with hl
    subst hl
    obtain ⟨B, hv, _⟩ := hs
    exact ⟨⟨B, hv, hv⟩, fun t off e => by cases e; exact h.vars n cs he⟩
  · rename_i s off he
    rw [he] at hs
    injection hl with hl
    subst hl
    exact ⟨hs, fun t off e => by cases e; exact h.locs n _ _ he⟩
  · rename_i b off he
    rw [he] at hs
    injection hl with hl
    subst hl
    exact ⟨hs, fun t off e => by cases e⟩
  · rename_i cs he
    rw [he] at hs
    injection hl with hl
    subst hl
    exact ⟨hs, fun t off e => by cases e⟩
  · cases hl

theorem BlockRel.rd {B : Nat} {ow : Owner} {oc : Nat → Owner} {cs0 cs : List D} {off sz : Nat} (hb : BlockRel P c B ow oc cs0) (hc : cut cs0 off sz = some cs) :
    cs.length = sz ∧ ∀ (i : Nat) (d : D), cs[i]? = some d → d.one = true ∧ ∃ u, c.w.cell? ⟨B, off + i, none⟩ = some u ∧ CellRel P c (oc (off + i)) d u := by
  obtain ⟨C, e, h1, h2, h3, h4, h5⟩ := hb
  obtain ⟨hl, rfl⟩ := cut_spec hc
  refine ⟨by simp; omega, fun i d hd => ?_⟩
  rw [List.getElem?_take] at hd
  split at hd
  · rw [List.getElem?_drop] at hd
    obtain ⟨q1, u, q2, q3⟩ := h5 _ d hd
    exact ⟨q1, u, by rw [cell_of_row c.w B (off + i) C e (0, 0) h1]; exact q2, q3⟩
  · cases hd

theorem Sim.obj (h : Sim P N V c0 c σ a w) {b : Nat} {cs : List D} (hb : σ.obj b = some cs) : ∃ B, c.j[b]? = some B ∧ BlockRel P c B (.ob b) (.oc b) cs := by
  unfold St.obj at hb
  split at hb
  · rename_i cs' he
    injection hb with hb
    subst hb
    exact h.H.2 b cs' he
  · cases hb

/-- What is read at a place. -/
theorem Sim.rd (h : Sim P N V c0 c σ a w) {l : Lv} {v : Value} {sz : Nat} {cs : List D} (hv : LvRel c (tmOf a) l v) (hr : σ.rd l sz = some cs) :
    ∃ B off, v = .pointer (some ⟨B, off, none⟩) ∧ cs.length = sz ∧ ∀ (i : Nat) (d : D), cs[i]? = some d → d.one = true ∧ ∃ u, w.cell? ⟨B, off + i, none⟩ = some u ∧ Rep c.w c.F c.j d.copy u := by
  have hw := h.hw
  subst hw
  cases l with
  | var t off =>
    simp only [St.rd] at hr
    split at hr
    · rename_i cs0 he
      have hs := h.slots t
      rw [he] at hs
      obtain ⟨B, h1, hb⟩ := hs
      obtain ⟨B', h2, h3⟩ := hv
      rw [h1] at h2
      cases h2
      obtain ⟨k1, k2⟩ := hb.rd hr
      exact ⟨B, off, h3, k1, fun i d hd => by
        obtain ⟨q1, u, q2, q3⟩ := k2 i d hd
        exact ⟨q1, u, q2, q3.copy⟩⟩
    · cases hr
  | obj b off =>
    simp only [St.rd] at hr
    split at hr
    · rename_i cs0 he
      obtain ⟨B, h1, hb⟩ := h.obj he
      have hv' : Rep c.w c.F c.j (.ptr b off) v := hv
      cases hv' with
      | ptr _ _ B' h2 =>
      rw [h1] at h2
      cases h2
      obtain ⟨k1, k2⟩ := hb.rd hr
      exact ⟨B, off, rfl, k1, fun i d hd => by
        obtain ⟨q1, u, q2, q3⟩ := k2 i d hd
        exact ⟨q1, u, q2, q3.copy⟩⟩
    · cases hr
  | imm cs0 =>
    simp only [St.rd] at hr
    obtain ⟨hl, rfl⟩ := cut_spec hr
    have hv' : Rep c.w c.F c.j (.imm cs0) v := hv
    cases hv' with
    | imm _ B off g hone hF hcell hrep =>
    refine ⟨B, off, rfl, by simp at hl ⊢; omega, fun i d hd => ?_⟩
    rw [List.getElem?_take] at hd
    split at hd
    · rw [List.getElem?_drop, Nat.zero_add] at hd
      exact ⟨(hone d (List.mem_of_getElem? hd)).1, g i, hcell i (List.getElem?_eq_some_iff.1 hd).1, (hrep i d hd).copy⟩
    · cases hd

theorem cells_list (B off : Nat) {cs : List D} {F : Nat → Nat} {j : List Nat} (h : ∀ (i : Nat) (d : D), cs[i]? = some d → d.one = true ∧ ∃ u, w.cell? ⟨B, off + i, none⟩ = some u ∧ Rep w F j d.copy u) :
    ∃ us : List Value, us.length = cs.length ∧ (∀ j u, us[j]? = some u → w.cell? ((⟨B, off, none⟩ : Addr).add j) = some u) ∧ ∀ (i : Nat) (d : D) (u : Value), cs[i]? = some d → us[i]? = some u → Rep w F j d.copy u := by
  refine ⟨(List.range cs.length).map fun i => (w.cell? ⟨B, off + i, none⟩).getD undef, by simp, fun j u hu => ?_, fun i d u hd hu => ?_⟩
  · rw [List.getElem?_map, Option.map_eq_some_iff] at hu
    obtain ⟨k, hk, rfl⟩ := hu
    obtain ⟨hlt, rfl⟩ := List.getElem?_eq_some_iff.1 hk
    simp only [List.length_range] at hlt
    obtain ⟨_, u, hu, _⟩ := h j cs[j] (List.getElem?_eq_getElem hlt)
    rw [Addr.add_lit, List.getElem_range, hu]
    rfl
  · rw [List.getElem?_map, Option.map_eq_some_iff] at hu
    obtain ⟨k, hk, rfl⟩ := hu
    obtain ⟨hlt, rfl⟩ := List.getElem?_eq_some_iff.1 hk
    obtain ⟨_, u, hu, hr⟩ := h i d hd
    rw [List.getElem_range, hu]
    exact hr

theorem run_loadVar {t : TypeId} {sz : Option Nat} {B off : Nat} {cs : List D} {d : D} {F : Nat → Nat} {j : List Nat} (hsz : szOf P t = some sz) (hlen : cs.length = sz.getD 1)
    (h : ∀ (i : Nat) (d : D), cs[i]? = some d → d.one = true ∧ ∃ u, w.cell? ⟨B, off + i, none⟩ = some u ∧ Rep w F j d.copy u) (ho : ofCells sz cs = some d) :
    ∃ v, (loadVar t ⟨B, off, none⟩).run P w = .ok v w ∧ Rep w F j d v := by
  obtain ⟨_, i, _, hi, hcase⟩ := szOf_spec (w := w) hsz
  rcases hcase with ⟨n, rfl, hn, hagg⟩ | ⟨rfl, hagg⟩
  · simp only [ofCells, Option.some.injEq] at ho
    simp only [Option.getD_some] at hlen
    subst ho
    obtain ⟨us, k1, k2, k3⟩ := cells_list B off h
    have hload : (loadCells ⟨B, off, none⟩ i.size).run P w = .ok us.toArray w := by
      rw [hn, ← hlen, ← k1]
      exact run_loadCells_list w ⟨B, off, none⟩ us k2
    refine ⟨.agg us.toArray, by simp [loadVar, hagg, run_sizeOf' hi, hload], .agg _ _ (by simpa using k1.symm) ?_ ?_⟩
    · intro x hx
      rw [List.mem_map] at hx
      obtain ⟨y, hy, rfl⟩ := hx
      obtain ⟨k, hk⟩ := List.mem_iff_getElem?.1 hy
      rw [copy_one]
      exact (h k y hk).1
    · intro k x u hx hu
      rw [List.getElem?_map, Option.map_eq_some_iff] at hx
      obtain ⟨y, hy, rfl⟩ := hx
      exact k3 k y u hy (by simpa using hu)
  · simp only [Option.getD_none] at hlen
    match cs, hlen with
    | [x], _ =>
      simp only [ofCells, Option.some.injEq] at ho
      subst ho
      obtain ⟨_, u, hu, hr⟩ := h 0 x rfl
      exact ⟨u, by simp only [loadVar, Sem.run_bind, hagg, Result.andThen_ok, Bool.false_eq_true, if_false, load, Sem.run]; simp only [Nat.add_zero] at hu; simp [hu], hr⟩

theorem goes_ld (h : Sim P N V c0 c σ a w) {n : Nat} {x : Operand} {t : TypeId} {sz : Option Nat} (ho : opr (.t n) x = true) (hop : o.op = .load t x) (hsz : szOf P t = some sz) (hd : dstOK N V o.dst = true)
    (hs : stepF (.ld sz n) o.dst σ = some σ') : Goes P N V c0 σ' a w o := by
  simp only [stepF] at hs
  split at hs
  · rename_i l hl
    split at hs
    · rename_i cs hr
      split at hs
      · rename_i d h3
        injection hs with hs
        subst hs
        obtain ⟨B, off, hv, hlen, hcells⟩ := h.rd (h.lv hl).1 hr
        have hw := h.hw
        rw [hw] at hcells
        obtain ⟨v, k1, k2⟩ := run_loadVar (P := P) hsz hlen hcells h3
        refine h.goes hd (v := v) ?_ (by rw [hw]; exact k2)
        simp [execOp, hop, opr_tmp (.inl ho) a, hv, Instr.loadAt, Instr.sureAddr, k1]
      · cases hs
    · cases hs
  · cases hs

end
end Go.Am
