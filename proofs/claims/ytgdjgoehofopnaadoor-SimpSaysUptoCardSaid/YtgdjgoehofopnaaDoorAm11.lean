/- Slices that are made and appended to; objects. -/
import Derived.Test.YtgdjgoehofopnaaDoorAm10
set_option linter.unusedSimpArgs false
set_option linter.unusedVariables false
set_option linter.unnecessarySimpa false
namespace Go.Am
open Go Go.Lib
section
variable {P : Program} {N : Nat} {V : Nat → Bool} {c0 c : Cx} {σ σ' : St} {a : Act} {w : World} {o : Oper}

/-- A new row that is owned by a slot. -/
theorem own_new {e sz k : Nat} {w' : World} {xs : List D} {us : List Value} {C : Array Value} {cap : Nat} {o' : Owner} (hw : Wf c) (hext : Ext c.w w') (hi : (P.info? e).map (·.size) = some sz) (h0 : 0 < sz) (hb : xs.length ≤ bnd) (hel : ∀ x ∈ xs, x.elem sz = true)
    (hnew : w'.heap[c.w.heap.size]? = some (.cells C e (0, 0))) (hcap : xs.length ≤ cap) (hm : cap ≤ maxLen) (hC : C.size = cap * sz) (htake : C.toList.take (xs.length * sz) = us) (hk : k = xs.length * sz)
    (hr : ∀ (i : Nat) (d : D), (xs.flatMap D.cells)[i]? = some d → ∃ u, us[i]? = some u ∧ Rep c.w c.F c.j d u) :
    OwnRel P (c.ext w' k (some o') []) o' e xs (.slice (some ⟨c.w.heap.size, 0, none⟩) xs.length cap) := by
  obtain ⟨k1, k2, k3⟩ := Cx.ext_spec hw hext k (some o') []
  refine .inr ⟨sz, us, hi, h0, ⟨?_, .inr ⟨c.w.heap.size, cap, C, rfl, Nat.zero_le _, hnew, hcap, hm, hC, htake⟩⟩, hb, hel, fun i d hd => ?_, fun g hg => ?_⟩
  · rw [← htake, List.length_take, show C.toList.length = cap * sz from by rw [Array.length_toList]; exact hC, Nat.min_eq_left (Nat.mul_le_mul_right _ hcap)]
  · obtain ⟨u, hu, hru⟩ := hr i d hd
    exact ⟨u, hu, hru.le k1.le⟩
  · simp only [Value.ownBlock, Option.some.injEq] at hg
    subst hg
    exact ⟨(if_pos rfl).trans hk, if_pos rfl⟩

theorem bnd_maxLen {n : Nat} (h : n ≤ bnd) : n ≤ maxLen := by simp only [maxLen, bnd] at *; omega

/-- Literals of slices. -/
def bslOK (P : Program) (t : TypeId) (e sz len : Nat) (as : List AO) (qs : List (Nat × Operand)) : Bool :=
  match P.underlying t, P.info? e with
  | some (.slice e'), some i => e' == e && i.size == sz && decide (0 < sz) && len == as.length && decide (len * sz ≤ 2 ^ 24) && qs.map (·.1) == List.range len && oprs as (qs.map (·.2)) &&
      (match i.zero with | some z => z.cells.size == sz | none => false)
  | _, _ => false

theorem run_fill_list {sz : Nat} (h : Sim P N V c0 c σ a w) : ∀ {ds : List D} {xs : List Operand} {pre : List D} {C : Array Value} (s : Nat),
    ds.length = xs.length → (∀ (i : Nat) (d : D) (x : Operand), ds[i]? = some d → xs[i]? = some x → Rep c.w c.F c.j d (a.eval x)) → (∀ d ∈ ds, d.cells.length = sz ∧ d.cells.all D.one = true) →
    pre.length = s * sz → (s + ds.length) * sz = C.size → (∀ (i : Nat) (d : D), pre[i]? = some d → ∃ u, C[i]? = some u ∧ Rep c.w c.F c.j d u) →
    ∃ C', Instr.fill (fun i => some (i * sz, sz)) C (((List.range' s ds.length).zip xs).map fun (i, x) => (i, a.eval x)) = some C' ∧ C'.size = C.size ∧
      ∀ (i : Nat) (d : D), (pre ++ ds.flatMap D.cells)[i]? = some d → ∃ u, C'[i]? = some u ∧ Rep c.w c.F c.j d u
  | [], [], pre, C, s, _, _, _, _, _, hp => ⟨C, rfl, rfl, by simpa using hp⟩
  | d :: ds, x :: xs, pre, C, s, hl, hr, hc, hpl, hC, hp => by
    have hr0 := hr 0 d x rfl rfl
    obtain ⟨hc1, hc2⟩ := hc d List.mem_cons_self
    obtain ⟨r1, r2⟩ := rep_cells_of hr0 hc2
    simp only [List.length_cons] at hC hl
    have hfit : s * sz + (a.eval x).cells.size ≤ C.size := by
      rw [← hC, r1, hc1, Nat.add_mul, Nat.succ_mul]
      omega
    obtain ⟨f1, f2⟩ := fill_cells #[] (s * sz) (a.eval x).cells.toList 0 C (by simp; omega)
    have hstep : ∀ (i : Nat) (y : D), (pre ++ d.cells)[i]? = some y → ∃ u, (((a.eval x).cells.toList.zipIdx 0).foldl (fun cs (p : Value × Nat) => cs.setIfInBounds (s * sz + p.2) p.1) C)[i]? = some u ∧ Rep c.w c.F c.j y u := by
      intro i y hy
      rw [f2]
      simp only [Nat.add_zero, Nat.sub_zero, Array.length_toList]
      by_cases hi : i < pre.length
      · rw [List.getElem?_append_left hi] at hy
        rw [if_neg (by omega)]
        exact hp i y hy
      · rw [List.getElem?_append_right (by omega)] at hy
        have hlt := (List.getElem?_eq_some_iff.1 hy).1
        rw [if_pos (by omega)]
        obtain ⟨u, hu, hru⟩ := r2 _ y hy
        refine ⟨u, ?_, hru⟩
        rw [← hpl]
        simpa using hu
    obtain ⟨C', g1, g2, g3⟩ := run_fill_list h (ds := ds) (xs := xs) (pre := pre ++ d.cells) (s + 1) (by omega) (fun i d' x' hd' hx' => hr (i + 1) d' x' hd' hx') (fun d' hd' => hc d' (List.mem_cons_of_mem _ hd'))
      (by rw [List.length_append, hpl, hc1, Nat.succ_mul]) (by rw [f1, ← hC]; congr 1; omega) hstep
    refine ⟨C', ?_, by rw [g2, f1], fun i y hy => g3 i y ?_⟩
    · simp only [List.length_cons, List.range'_succ, List.zip_cons_cons, List.map_cons, Instr.fill]
      rw [if_neg (by simp; omega), zip_arr]
      exact g1
    · rw [List.flatMap_cons, ← List.append_assoc] at hy
      exact hy
  | [], _ :: _, _, _, _, hl, _, _, _, _, _ => by simp at hl
  | _ :: _, [], _, _, _, hl, _, _, _, _, _ => by simp at hl

theorem run_bsl (h : Sim P N V c0 c σ a w) {t e sz len : Nat} {as : List AO} {parts : Array (Nat × Operand)} {ds : List D} (hb : bslOK P t e sz len as parts.toList = true) (hv : σ.vals as = some ds) (hel : ∀ d ∈ ds, d.cells.length = sz ∧ d.cells.all D.one = true) :
    ds.length = len ∧ 0 < sz ∧ len * sz ≤ 2 ^ 24 ∧ (P.info? e).map (·.size) = some sz ∧ ∃ C, (Instr.buildSlice t len (parts.map fun (i, x) => (i, a.eval x))).run P w = .ok (.slice (some ⟨w.heap.size, 0, none⟩) len len) (w.alloc (.cells C e)) ∧ C.size = len * sz ∧
      ∀ (i : Nat) (d : D), (ds.flatMap D.cells)[i]? = some d → ∃ u, C[i]? = some u ∧ Rep c.w c.F c.j d u := by
  unfold bslOK at hb
  split at hb
  · rename_i e' i hu hi
    simp only [Bool.and_eq_true, beq_iff_eq, decide_eq_true_eq] at hb
    obtain ⟨⟨⟨⟨⟨⟨⟨rfl, hsz⟩, h0⟩, hlen⟩, h24⟩, hidx⟩, hops⟩, hz⟩ := hb
    obtain ⟨k1, k2⟩ := h.vals hops hv
    split at hz
    · rename_i z hzv
      rw [beq_iff_eq] at hz
      have hlx : (parts.toList.map (·.2)).length = len := by
        have := congrArg List.length hidx
        simpa using this
      have hdl : ds.length = len := by omega
      have hne : ¬ len * sz > 2 ^ 24 := by omega
      have hpz : (parts.toList.map fun (i, x) => (i, a.eval x)) = ((List.range' 0 ds.length).zip (parts.toList.map (·.2))).map fun (i, x) => (i, a.eval x) := by
        rw [hdl, ← List.range_eq_range', ← hidx]
        congr 1
        rw [List.zip_map', List.map_id'']
        intro x
        rfl
      obtain ⟨C, g1, g2, g3⟩ := run_fill_list h (ds := ds) (xs := parts.toList.map (·.2)) (pre := []) (sz := sz) (C := (Array.range (len * sz)).map (fun i => (if len * sz = 0 then (#[] : Array Value) else z.cells)[i % (if len * sz = 0 then (#[] : Array Value) else z.cells).size]!)) 0 (by omega) k2 hel (by simp) (by simp [hdl]) (by simp)
      refine ⟨hdl, h0, h24, by rw [hi, ← hsz]; rfl, C, ?_, by rw [g2]; simp, by simpa using g3⟩
      rw [← hpz] at g1
      simp only [Instr.buildSlice, Sem.run_bind, run_underlying hu, Result.andThen_ok, run_sizeOf' hi, hsz, if_neg hne]
      by_cases hl0 : len * sz = 0
      · simp only [hl0, if_true] at g1 ⊢
        have e0 : ∀ f : Nat → Value, Array.map f (Array.range 0) = #[] := fun f => by simp
        rw [e0] at g1
        simp only [Sem.run_pure, Result.andThen_ok, Array.toList_map, e0, g1]
        simp [newRow]
      · simp only [hl0, if_false] at g1 ⊢
        simp only [zeroValue, typeInfo, hi, hzv, Sem.run_bind, run_program, Sem.run_pure, Result.andThen_ok, Array.toList_map, g1]
        simp [newRow]
    · cases hz
  · cases hb

theorem goes_bsl (h : Sim P N V c0 c σ a w) {t e sz len : Nat} {as : List AO} {parts : Array (Nat × Operand)} (hop : o.op = .buildSlice t len parts) (hb : bslOK P t e sz len as parts.toList = true) (hd : dstOK N V o.dst = true)
    (hs : stepF (.bsl e sz as) o.dst σ = some σ') : Goes P N V c0 σ' a w o := by
  simp only [stepF] at hs
  split at hs
  · rename_i ds hv
    split at hs
    · rename_i hel
      injection hs with hs
      subst hs
      have hel' : ∀ x ∈ ds, x.elem sz = true := fun x hx => List.all_eq_true.1 hel x hx
      obtain ⟨k1, k2, k3, k4, C, k5, k6, k7⟩ := run_bsl h hb hv (fun d hd => by
        obtain ⟨p1, p2, p3⟩ := elem_iff.1 (hel' d hd)
        exact ⟨p1, List.all_eq_true.2 p3⟩)
      have hw := h.hw
      subst hw
      have hbn : ds.length ≤ bnd := by
        have : ds.length * 1 ≤ ds.length * sz := Nat.mul_le_mul_left _ k2
        simp only [bnd]
        rw [k1] at this
        omega
      refine h.goesNew hd (k := ds.length * sz) (ow := some (.slot (o.dst.getD 0))) (Ext.alloc _ _) (by simp only [execOp, hop, Sem.run_bind, k5, Result.andThen_ok]; rfl) (fun n hn => ?_)
      rw [hn, Option.getD_some, ← k1]
      exact own_new (us := C.toList) h.wf (Ext.alloc _ _) k4 k2 hbn hel' (by rw [← k1] at k5; exact heap_alloc_new _ _) (Nat.le_refl _) (bnd_maxLen hbn) (by rw [k6, k1]) (by rw [k1, ← k6, ← Array.length_toList, List.take_length]) rfl (fun i d hd => by simpa using k7 i d hd)
    · cases hs
  · cases hs

/-- An object is made: its block stands behind all others'. -/
theorem Sim.newObj (h : Sim P N V c0 c σ a w) (hd : dstOK N V o.dst = true) {w' : World} {C : Array Value} {e : TypeId} {cs : List D} {d : D} {v : Value} (hext : Ext w w') (hnew : w'.heap[w.heap.size]? = some (.cells C e (0, 0))) (hl : cs.length ≤ C.size) (h1 : ∀ x ∈ cs, x.one = true)
    (hr : ∀ (i : Nat) (x : D), cs[i]? = some x → ∃ u, C[i]? = some u ∧ Rep c.w c.F c.j x u) (hrun : (execOp a.eval o).run P w = .ok (.value v) w') (hv : ∀ c' : Cx, c'.w = w' → c'.j[σ.H.length]? = some w.heap.size → Rep c'.w c'.F c'.j d v) :
    Goes P N V c0 ({ σ with H := σ.H ++ [some cs] }.put o.dst (.d d)) a w o := by
  have hw := h.hw
  subst hw
  obtain ⟨k1, k2, k3⟩ := Cx.ext_spec h.wf hext 0 (some (.ob σ.H.length)) [c.w.heap.size]
  have hj : (c.ext w' 0 (some (.ob σ.H.length)) [c.w.heap.size]).j[σ.H.length]? = some c.w.heap.size := by
    show (c.j ++ [c.w.heap.size])[σ.H.length]? = _
    rw [← h.H.1]
    simp
  have hsim : Sim P N V c0 (c.ext w' 0 (some (.ob σ.H.length)) [c.w.heap.size]) { σ with H := σ.H ++ [some cs] } a w' := by
    refine ⟨rfl, k2, h.fr.trans k1, h.size, h.out, h.vars, h.locs, fun m => (h.slots m).keeps k1.le k3 (by simp) (by simp) (by simp), ⟨?_, fun b cs' hb => ?_⟩, h.dfr⟩
    · show (c.j ++ [c.w.heap.size]).length = _
      simp [h.H.1]
    · by_cases hbl : b < σ.H.length
      · have hb' : σ.H[b]? = some (some cs') := by rw [← hb]; exact (List.getElem?_append_left hbl).symm
        obtain ⟨B, q1, q2⟩ := h.H.2 b cs' hb'
        refine ⟨B, ?_, q2.keeps k1.le k3 (by simp) (by simp)⟩
        show (c.j ++ [c.w.heap.size])[b]? = some B
        rw [List.getElem?_append_left (by rw [h.H.1]; exact hbl)]
        exact q1
      · have hb' : (σ.H ++ [some cs])[b]? = some (some cs') := hb
        rw [List.getElem?_append_right (by omega)] at hb'
        have : b = σ.H.length := by
          have := (List.getElem?_eq_some_iff.1 hb').1
          simp at this
          omega
        subst this
        simp at hb'
        subst hb'
        refine ⟨c.w.heap.size, hj, C, e, hnew, hl, if_pos rfl, if_pos rfl, fun i x hx => ?_⟩
        obtain ⟨u, hu, hru⟩ := hr i x hx
        exact ⟨h1 x (List.mem_of_getElem? hx), u, hu, CellRel.of_rep (hru.le k1.le)⟩
  exact ⟨_, w', .inl ⟨v, hrun, hsim.put (dstOK_spec hd) (fun n _ => CellRel.of_rep (hv _ rfl hj)) (by simp) (by simp)⟩⟩

theorem goes_bslH (h : Sim P N V c0 c σ a w) {t e sz len : Nat} {as : List AO} {parts : Array (Nat × Operand)} (hop : o.op = .buildSlice t len parts) (hb : bslOK P t e sz len as parts.toList = true) (hd : dstOK N V o.dst = true)
    (hs : stepF (.bslH sz as) o.dst σ = some σ') : Goes P N V c0 σ' a w o := by
  simp only [stepF] at hs
  split at hs
  · rename_i ds hv
    split at hs
    · rename_i hel
      injection hs with hs
      subst hs
      have hel' : ∀ d ∈ ds, d.cells.length = sz ∧ d.cells.all D.one = true := by
        intro d hd
        have := List.all_eq_true.1 hel d hd
        simpa using this
      obtain ⟨k1, k2, k3, k4, C, k5, k6, k7⟩ := run_bsl h hb hv hel'
      have hfl : (ds.flatMap D.cells).length = ds.length * sz := by
        clear hel hb hv k1 k5 k7
        induction ds with
        | nil => simp
        | cons d ds ih => rw [List.flatMap_cons, List.length_append, ih (fun x hx => hel' x (List.mem_cons_of_mem _ hx)), (hel' d List.mem_cons_self).1, List.length_cons, Nat.succ_mul, Nat.add_comm]
      have hbn : len ≤ bnd := by
        have : len * 1 ≤ len * sz := Nat.mul_le_mul_left _ k2
        simp only [bnd]
        omega
      refine h.newObj hd (Ext.alloc _ _) (heap_alloc_new _ _) (by rw [hfl, k6, k1]; exact Nat.le_refl _) (fun x hx => ?_) k7 (by simp only [execOp, hop, Sem.run_bind, k5, Result.andThen_ok]; rfl) (fun c' hw' hj' => ?_)
      · obtain ⟨d, hd, hx⟩ := List.mem_flatMap.1 hx
        exact List.all_eq_true.1 (hel' d hd).2 x hx
      · rw [k1]
        refine .ref _ 0 len sz _ len hj' (Nat.le_refl _) hbn ⟨C, e, (0, 0), ?_, by omega⟩
        rw [hw']
        exact heap_alloc_new _ _
    · cases hs
  · cases hs

theorem goes_boxH (h : Sim P N V c0 c σ a w) {aa : AO} {xa : Operand} {t : TypeId} (ho : opr aa xa = true) (hop : o.op = .box t xa) (hd : dstOK N V o.dst = true)
    (hs : stepF (.boxH aa) o.dst σ = some σ') : Goes P N V c0 σ' a w o := by
  simp only [stepF] at hs
  split at hs
  · rename_i d h1
    split at hs
    · rename_i hone
      injection hs with hs
      subst hs
      obtain ⟨k1, k2⟩ := rep_cells_of (h.val ho h1) hone
      exact h.newObj hd (w' := w.alloc (.cells (a.eval xa).cells t)) (v := .pointer (some ⟨w.heap.size, 0, none⟩)) (Ext.alloc _ _) (heap_alloc_new _ _) (by simp; omega)
        (by intro x hx; rw [List.mem_map] at hx; obtain ⟨y, hy, rfl⟩ := hx; rw [copy_one]; exact List.all_eq_true.1 hone y hy) (copies_rep k2) (by simp [execOp, hop, Instr.box, newVar, newRow]) (fun c' _ hj' => .ptr _ 0 _ hj')
    · cases hs
  · cases hs

theorem goes_allocH (h : Sim P N V c0 c σ a w) {t : TypeId} {z : List D} {i : TypeInfo} {zv : Value} (hi : P.info? t = some i) (hz : i.zero = some zv) (hzc : constsOK z zv.cells.toList = true) (hop : o.op = .alloc t) (hd : dstOK N V o.dst = true)
    (hs : stepF (.allocH z) o.dst σ = some σ') : Goes P N V c0 σ' a w o := by
  simp only [stepF] at hs
  injection hs with hs
  subst hs
  obtain ⟨k1, k2, k3⟩ := constsOK_rep (w := c.w) (F := c.F) (j := c.j) hzc
  exact h.newObj hd (w' := w.alloc (.cells zv.cells t)) (v := .pointer (some ⟨w.heap.size, 0, none⟩)) (Ext.alloc _ _) (heap_alloc_new _ _) (by simpa using Nat.le_of_eq k1) k2 (fun i d hd => by
    have hlt := (List.getElem?_eq_some_iff.1 hd).1
    have hv : zv.cells[i]? = some (zv.cells[i]'(by simp at k1; omega)) := Array.getElem?_eq_getElem _
    exact ⟨_, hv, k3 i d _ hd (by simpa using hv)⟩) (by simp [execOp, hop, Instr.alloc, zeroValue, typeInfo, hi, hz, newVar, newRow]) (fun c' _ hj' => .ptr _ 0 _ hj')

end
end Go.Am
