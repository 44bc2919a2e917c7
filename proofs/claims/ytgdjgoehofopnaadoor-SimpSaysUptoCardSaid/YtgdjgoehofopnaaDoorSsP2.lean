/- SimpSays, plain law: the program's rows, and what it leaves out. -/
import Derived.Test.YtgdjgoehofopnaaDoorSsP1
set_option linter.unusedSimpArgs false
set_option linter.unusedVariables false
set_option maxRecDepth 20000
namespace Go.Am
open Go
theorem iw {n : Nat} (h : n ≤ 9000000000000000000) : IntKind.i64.wrap ((n : Int) + 1) = ((n + 1 : Nat) : Int) := by rw [wrap64 (by omega)]; rfl

/-! Whether one is in a row. -/
theorem idx_L {l : List C17} {Q : C17 → Bool} (hl : l.length ≤ 1000000000) : ∀ (n i : Nat) (p : Nat → C17 → Option Bool), (∀ x ∈ l, Evt (fun k => p k x) (Q x)) → i + n = l.length →
    ∃ r : Int, Evt (fun k => slices_IndexFunc_Lcoded_Coded_coded_Coded_L1 k (p k) l (l.length : Int) (i : Int)) r ∧ decide (r ≥ 0) = (l.drop i).any Q
  | 0, i, p, hp, hi => by
    refine ⟨-1, ?_, by rw [List.drop_of_length_le (by omega)]; rfl⟩
    refine Evt.succ ?_
    simp only [slices_IndexFunc_Lcoded_Coded_coded_Coded_L1]
    exact Evt.f (by rw [decide_eq_false_iff_not]; omega) Evt.pure
  | n + 1, i, p, hp, hi => by
    have h1 : i < l.length := by omega
    rw [List.drop_eq_getElem_cons h1, List.any_cons]
    cases hq : Q l[i] with
    | true =>
      refine ⟨(i : Int), ?_, by rw [Bool.true_or, decide_eq_true_eq]; omega⟩
      refine Evt.succ ?_
      simp only [slices_IndexFunc_Lcoded_Coded_coded_Coded_L1]
      refine Evt.t (by rw [decide_eq_true_eq]; omega) (Evt.at (at_nat h1) (Evt.bind (Evt.shift (hp _ (List.getElem_mem h1))) ?_))
      rw [hq]
      exact Evt.t rfl Evt.pure
    | false =>
      obtain ⟨r, h2, h3⟩ := idx_L hl n (i + 1) (fun k => p (k + 1)) (fun x hx => Evt.shift (hp x hx)) (by omega)
      refine ⟨r, ?_, by rw [h3, Bool.false_or]⟩
      refine Evt.succ ?_
      simp only [slices_IndexFunc_Lcoded_Coded_coded_Coded_L1]
      refine Evt.t (by rw [decide_eq_true_eq]; omega) (Evt.at (at_nat h1) (Evt.bind (Evt.shift (hp _ (List.getElem_mem h1))) ?_))
      rw [hq, iw (by omega)]
      exact Evt.f rfl h2
theorem any_ev {l : List C17} {Q : C17 → Bool} (hl : l.length ≤ 1000000000) (p : Nat → C17 → Option Bool) (hp : ∀ x ∈ l, Evt (fun k => p k x) (Q x)) :
    Evt (fun k => slices_ContainsFunc_Lcoded_Coded_coded_Coded k l (p k)) (l.any Q) := by
  obtain ⟨r, h2, h3⟩ := idx_L hl l.length 0 (fun k => p (k + 1 + 1)) (fun x hx => Evt.shift (Evt.shift (hp x hx))) (by omega)
  refine Evt.succ ?_
  simp only [slices_ContainsFunc_Lcoded_Coded_coded_Coded]
  refine Evt.bind (r := r) ?_ (Evt.eq h3)
  refine Evt.succ ?_
  simp only [slices_IndexFunc_Lcoded_Coded_coded_Coded]
  exact h2

/-! The program's own words. -/
def zeroC : C17 := ⟨0, [], Arr.rep 4 0, []⟩
theorem convS_zero : convS (Arr.rep 4 0) = zs := by
  unfold convS zs Arr.rep
  congr 1
theorem conv_zero : conv zeroC = zeroR := by rw [conv_eq]; show T_ref17_Coded.mk 0 [] (convS (Arr.rep 4 0)) [] = _; rw [convS_zero]; rfl
def fuseC (b : List UInt8) (x : C17) : C17 := if x.Kind = 0 then x else ⟨x.Kind, b ++ x.Bits, x.Set, x.L⟩
theorem conv_fuse (b : List UInt8) (x : C17) : conv (fuseC b x) = fuseR b (conv x) := by
  unfold fuseC fuseR
  rw [conv_Kind]
  split
  · rfl
  · rw [conv_eq, conv_eq x]
theorem fuse_ev (b : List UInt8) (x : C17) (h : b.length + x.Bits.length ≤ 140737488351232) : Evt (fun k => simp_fuse k b x) (fuseC b x) := by
  refine Evt.succ ?_
  simp only [simp_fuse]
  unfold fuseC
  by_cases hk : x.Kind = 0
  · rw [if_pos hk]
    exact Evt.f (by simp [hk]) Evt.pure
  · rw [if_neg hk]
    exact Evt.t (by simp [hk]) (Evt.need h Evt.pure)
def rowC (x : C17) : List C17 := if x.Kind = 0 then [] else if x.Kind = 4 then x.L.map (fuseC x.Bits) else [x]
def flatC (l : List C17) : List C17 := l.flatMap rowC
theorem conv_row (x : C17) : (rowC x).map conv = rowR (conv x) := by
  unfold rowC rowR
  rw [conv_Kind, conv_L, conv_Bits]
  split
  · rfl
  · split
    · rw [List.map_map, List.map_map]
      exact List.map_congr_left fun y _ => conv_fuse _ _
    · rfl
theorem conv_flat : ∀ l, (flatC l).map conv = flatR (l.map conv)
  | [] => rfl
  | x :: l => by
    show (rowC x ++ flatC l).map conv = rowR (conv x) ++ flatR (l.map conv)
    rw [List.map_append, conv_row, conv_flat l]
def onceC (acc : List C17) : List C17 → List C17
  | [] => acc
  | x :: xs => if acc.any (fun y => sameR (conv y) (conv x)) then onceC acc xs else onceC (acc ++ [x]) xs
theorem conv_once : ∀ l acc, (onceC acc l).map conv = onceR (acc.map conv) (l.map conv)
  | [], acc => rfl
  | x :: l, acc => by
    rw [onceC, List.map_cons, onceR, List.any_map]
    show _ = if acc.any (fun y => sameR (conv y) (conv x)) = true then _ else _
    split
    · exact conv_once l acc
    · rw [conv_once l (acc ++ [x]), List.map_append]; rfl
theorem wok_fuse {b : List UInt8} {x : C17} (h : wok x) : wok (fuseC b x) := by
  unfold fuseC; split
  · exact h
  · rw [wok_iff] at h ⊢; exact h
theorem wok_zero : wok zeroC := by
  rw [wok_iff]
  refine ⟨fun z hz => ?_, fun y hy => by cases hy⟩
  have : z = 0 := List.eq_of_mem_replicate hz
  omega
theorem wok_flat {l : List C17} (h : ∀ x ∈ l, wok x) : ∀ y ∈ flatC l, wok y := by
  intro y hy
  obtain ⟨x, hx, hy⟩ := List.mem_flatMap.1 hy
  have hw := h x hx
  unfold rowC at hy
  split at hy
  · cases hy
  · split at hy
    · obtain ⟨z, hz, rfl⟩ := List.mem_map.1 hy
      exact wok_fuse ((wok_iff x).1 hw |>.2 z hz)
    · simp at hy; subst hy; exact hw
theorem mem_onceC : ∀ {l acc : List C17} {y : C17}, y ∈ onceC acc l → y ∈ acc ∨ y ∈ l
  | [], acc, y, h => .inl h
  | x :: l, acc, y, h => by
    rw [onceC] at h
    split at h
    · rcases mem_onceC h with h | h
      · exact .inl h
      · exact .inr (by simp [h])
    · rcases mem_onceC h with h | h
      · rcases List.mem_append.1 h with h | h
        · exact .inl h
        · simp at h; exact .inr (by simp [h])
      · exact .inr (by simp [h])

/-! One row. -/
theorem flat_L2 (t8 : List C17) (t9 t10 : Int) (v : C17) (hv : ∀ y ∈ v.L, v.Bits.length + y.Bits.length ≤ 140737488351232) {r : List C17} : ∀ (n i : Nat) (acc : List C17), i + n = v.L.length → acc.length + n ≤ 1000000000 → i + n ≤ 1000000000 →
    Evt (fun k => simp_Flat_J1 k (acc ++ (v.L.drop i).map (fuseC v.Bits)) t8 t9 t10) r → Evt (fun k => simp_Flat_L2 k acc v t8 t9 t10 v.L (v.L.length : Int) (i : Int)) r
  | 0, i, acc, hi, ha, hb, h => by
    refine Evt.succ ?_
    simp only [simp_Flat_L2]
    rw [List.drop_of_length_le (by omega), List.map_nil, List.append_nil] at h
    exact Evt.f (by rw [decide_eq_false_iff_not]; omega) h
  | n + 1, i, acc, hi, ha, hb, h => by
    have h1 : i < v.L.length := by omega
    refine Evt.succ ?_
    simp only [simp_Flat_L2]
    rw [iw (by omega)]
    refine Evt.t (by rw [decide_eq_true_eq]; omega) (Evt.at (at_nat h1) (Evt.bind (fuse_ev _ _ (hv _ (List.getElem_mem h1))) (Evt.need (by simp only [List.length_singleton]; omega) ?_)))
    refine flat_L2 t8 t9 t10 v hv n (i + 1) _ (by omega) (by simp only [List.length_append, List.length_singleton]; omega) (by omega) ?_
    rw [List.drop_eq_getElem_cons h1, List.map_cons] at h
    rw [List.append_assoc]; exact h
theorem flat_L (l : List C17) (hl : l.length ≤ 1000000000) (hv : ∀ v ∈ l, ∀ y ∈ v.L, v.Kind = 4 → v.Bits.length + y.Bits.length ≤ 140737488351232) : ∀ (n i : Nat) (acc : List C17), i + n = l.length → acc.length + (flatC (l.drop i)).length ≤ 1000000000 →
    Evt (fun k => simp_Flat_L1 k acc l (l.length : Int) (i : Int)) (acc ++ flatC (l.drop i))
  | 0, i, acc, hi, ha => by
    refine Evt.succ ?_
    simp only [simp_Flat_L1]
    rw [List.drop_of_length_le (by omega)]
    exact Evt.f (by rw [decide_eq_false_iff_not]; omega) (Evt.eq (by simp [flatC]))
  | n + 1, i, acc, hi, ha => by
    have h1 : i < l.length := by omega
    have hd : flatC (l.drop i) = rowC l[i] ++ flatC (l.drop (i + 1)) := by rw [List.drop_eq_getElem_cons h1]; rfl
    rw [hd, List.length_append] at ha
    have next : Evt (fun k => simp_Flat_J1 k (acc ++ rowC l[i]) l (l.length : Int) (i : Int)) (acc ++ flatC (l.drop i)) := by
      refine Evt.succ ?_
      simp only [simp_Flat_J1]
      rw [iw (by omega), hd, ← List.append_assoc]
      exact flat_L l hl hv n (i + 1) _ (by omega) (by rw [List.length_append]; omega)
    refine Evt.succ ?_
    simp only [simp_Flat_L1]
    refine Evt.t (by rw [decide_eq_true_eq]; omega) (Evt.at (at_nat h1) ?_)
    by_cases h0 : l[i].Kind = 0
    · refine Evt.t (by simp [h0]) ?_
      rw [show rowC l[i] = [] from if_pos h0, List.append_nil] at next
      exact next
    · refine Evt.f (by simp [h0]) ?_
      by_cases h4 : l[i].Kind = 4
      · refine Evt.t (by simp [h4]) ?_
        have hr : rowC l[i] = l[i].L.map (fuseC l[i].Bits) := by unfold rowC; rw [if_neg h0, if_pos h4]
        rw [hr] at next ha
        rw [List.length_map] at ha
        refine flat_L2 l _ _ l[i] (fun y hy => hv _ (List.getElem_mem h1) y hy h4) l[i].L.length 0 acc (by omega) (by omega) (by omega) ?_
        rw [List.drop_zero]; exact next
      · refine Evt.f (by simp [h4]) ?_
        have hr : rowC l[i] = [l[i]] := by unfold rowC; rw [if_neg h0, if_neg h4]
        rw [hr] at next ha
        simp only [List.length_singleton] at ha
        exact Evt.need (by simp only [List.length_singleton]; omega) next
theorem flat_ev (l : List C17) (hl : l.length ≤ 1000000000) (hv : ∀ v ∈ l, ∀ y ∈ v.L, v.Kind = 4 → v.Bits.length + y.Bits.length ≤ 140737488351232) (hf : (flatC l).length ≤ 1000000000) : Evt (fun k => simp_Flat k l) (flatC l) := by
  refine Evt.succ ?_
  simp only [simp_Flat]
  have := flat_L l hl hv l.length 0 [] (by omega) (by rw [List.drop_zero, List.length_nil]; omega)
  rw [List.drop_zero, List.nil_append] at this
  exact this

/-! Once. -/
theorem once_len : ∀ (l acc : List C17), (onceC acc l).length ≤ acc.length + l.length
  | [], acc => Nat.le_refl _
  | x :: l, acc => by
    rw [onceC]
    split
    · have := once_len l acc; simp only [List.length_cons]; omega
    · have := once_len l (acc ++ [x]); simp only [List.length_append, List.length_cons, List.length_nil] at this ⊢; omega
theorem once_L (l : List C17) (hl : l.length ≤ 1000000000) (hw : ∀ x ∈ l, wok x) (hz : ∀ x ∈ l, szR (conv x) ≤ 1000000000) : ∀ (n i : Nat) (acc : List C17), i + n = l.length → acc.length ≤ i → (∀ x ∈ acc, wok x) → (∀ x ∈ acc, szR (conv x) ≤ 1000000000) →
    Evt (fun k => simp_Once_L1 k acc l (l.length : Int) (i : Int)) (onceC acc (l.drop i))
  | 0, i, acc, hi, ha, hwa, hza => by
    refine Evt.succ ?_
    simp only [simp_Once_L1]
    rw [List.drop_of_length_le (by omega)]
    exact Evt.f (by rw [decide_eq_false_iff_not]; omega) Evt.pure
  | n + 1, i, acc, hi, ha, hwa, hza => by
    have h1 : i < l.length := by omega
    have hx := hw _ (List.getElem_mem h1)
    have hzx := hz _ (List.getElem_mem h1)
    refine Evt.succ ?_
    simp only [simp_Once_L1]
    refine Evt.t (by rw [decide_eq_true_eq]; omega) (Evt.at (at_nat h1) (Evt.bind (any_ev (Q := fun y => sameR (conv y) (conv l[i])) (by omega) (fun k a0 => simp_Once_c1 k a0 l[i]) fun y hy => ?_) ?_))
    · refine Evt.succ ?_
      simp only [simp_Once_c1]
      refine Evt.bind (same_ev l[i] y hx (hwa y hy) hzx) (Evt.eq ?_)
      rw [sameR_comm]
    · rw [List.drop_eq_getElem_cons h1, onceC]
      cases hc : acc.any fun y => sameR (conv y) (conv l[i]) with
      | true =>
        refine Evt.f rfl ?_
        rw [if_pos rfl]
        refine Evt.succ ?_
        simp only [simp_Once_J1]
        rw [iw (by omega)]
        exact once_L l hl hw hz n (i + 1) acc (by omega) (by omega) hwa hza
      | false =>
        refine Evt.t rfl (Evt.need (by simp only [List.length_singleton]; omega) ?_)
        rw [if_neg (by simp)]
        refine Evt.succ ?_
        simp only [simp_Once_J1]
        rw [iw (by omega)]
        refine once_L l hl hw hz n (i + 1) _ (by omega) (by simp only [List.length_append, List.length_singleton]; omega) ?_ ?_
        · intro x hx'; rcases List.mem_append.1 hx' with h | h
          · exact hwa x h
          · simp at h; subst h; exact hx
        · intro x hx'; rcases List.mem_append.1 hx' with h | h
          · exact hza x h
          · simp at h; subst h; exact hzx
theorem once_ev (l : List C17) (hl : l.length ≤ 1000000000) (hw : ∀ x ∈ l, wok x) (hz : ∀ x ∈ l, szR (conv x) ≤ 1000000000) : Evt (fun k => simp_Once k l) (onceC [] l) := by
  refine Evt.succ ?_
  simp only [simp_Once]
  exact once_L l hl hw hz l.length 0 [] (by omega) (by simp) (by simp) (by simp)
end Go.Am
