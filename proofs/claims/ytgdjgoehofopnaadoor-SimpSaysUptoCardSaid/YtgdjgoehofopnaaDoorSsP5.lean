/- SimpSays, plain law: the reference's own words answer as told. -/
import Derived.Test.YtgdjgoehofopnaaDoorSsP4
set_option linter.unusedSimpArgs false
set_option linter.unusedVariables false
set_option maxRecDepth 20000
namespace Go.Am
open Go

theorem rsize_L (x : R17) (m : Nat) (hm : m ≤ 20001) (hl : x.L.length ≤ 1000000000) (ih : ∀ y ∈ x.L, ∀ m' : Nat, m' ≤ 20001 → Evt (fun k => ref17_Size k y (m' : Int)) ((min (szR y) m' : Nat) : Int)) : ∀ (n i c : Nat), i + n = x.L.length → c ≤ m →
    Evt (fun k => ref17_Size_L1 k (m : Int) x (c : Int) (i : Int)) ((min (c + szsR (x.L.drop i)) m : Nat) : Int)
  | 0, i, c, hi, hc => by
    refine Evt.succ ?_
    simp only [ref17_Size_L1]
    rw [List.drop_of_length_le (by omega)]
    have hd : (decide ((i : Int) < (x.L.length : Int))) = false := by rw [decide_eq_false_iff_not]; omega
    rw [hd]
    refine Evt.f rfl (Evt.f (by rw [decide_eq_false_iff_not]; omega) (Evt.eq ?_))
    simp only [szsR]; omega
  | n + 1, i, c, hi, hc => by
    have h1 : i < x.L.length := by omega
    have hd : (decide ((i : Int) < (x.L.length : Int))) = true := by rw [decide_eq_true_eq]; omega
    have hd2 : (decide ((c : Int) ≤ (m : Int))) = true := by rw [decide_eq_true_eq]; omega
    have h2 := rsize_L x m hm hl ih n (i + 1) (c + min (szR x.L[i]) (m - c)) (by omega) (by omega)
    rw [List.drop_eq_getElem_cons h1, szsR]
    have key : Evt (fun k => (at_ x.L (i : Int)).bind fun y23 => (ref17_Size k y23 (IntKind.i64.wrap ((m : Int) - (c : Int)))).bind fun y28 => ref17_Size_L1 k (m : Int) x (IntKind.i64.wrap ((c : Int) + y28)) (IntKind.i64.wrap ((i : Int) + 1))) ((min (c + (szR x.L[i] + szsR (x.L.drop (i + 1)))) m : Nat) : Int) := by
      rw [wrap64 (by omega), show (m : Int) - (c : Int) = ((m - c : Nat) : Int) by omega]
      refine Evt.at (at_nat h1) (Evt.bind (ih _ (List.getElem_mem h1) (m - c) (by omega)) ?_)
      rw [iw (by omega), wrap64 (by omega), show (c : Int) + ((min (szR x.L[i]) (m - c) : Nat) : Int) = ((c + min (szR x.L[i]) (m - c) : Nat) : Int) by omega]
      refine h2.cast ?_
      congr 1
      omega
    refine Evt.succ ?_
    simp only [ref17_Size_L1]
    first
      | (rw [hd]
         refine Evt.t rfl ?_
         rw [hd2]
         refine Evt.succ ?_
         simp only [ref17_Size_J1]
         first | exact key | exact Evt.t rfl key)
      | (rw [hd, hd2]
         exact Evt.t rfl key)
theorem rsize_ev (x : R17) : szR x ≤ 1000000000 → ∀ m : Nat, m ≤ 20001 → Evt (fun k => ref17_Size k x (m : Int)) ((min (szR x) m : Nat) : Int) := by
  induction x using R17.ind with
  | h x ih =>
    intro hz m hm
    rw [szR_eq] at hz
    have hl := szsR_len x.L
    refine Evt.succ ?_
    simp only [ref17_Size]
    rw [szR_eq]
    by_cases h0 : m = 0
    · subst h0
      refine Evt.succ ?_
      simp only [ref17_Size_L1]
      have hd2 : (decide ((1 : Int) ≤ ((0 : Nat) : Int))) = false := by decide
      have hd3 : (decide ((1 : Int) > ((0 : Nat) : Int))) = true := by decide
      have fin : Evt (fun k : Nat => (some (((0 : Nat) : Int)) : Option Int)) ((min (1 + szsR x.L) 0 : Nat) : Int) := Evt.eq (by simp)
      rw [hd2, Bool.and_false]
      exact Evt.f rfl (Evt.t hd3 fin)
    · have := rsize_L x m hm (by omega) (fun y hy m' hm' => ih y hy (by have := szsR_mem hy; omega) m' hm') x.L.length 0 1 (by omega) (by omega)
      rw [List.drop_zero] at this
      exact this
/-- The depth, but no more than is asked. -/
def depM : Nat → R17 → Nat
  | 0, _ => 1
  | m + 1, x => 1 + (x.L.map (depM m)).foldl max 0
theorem foldl_max_le {l : List Nat} : ∀ {a n : Nat}, l.foldl max a ≤ n ↔ a ≤ n ∧ ∀ x ∈ l, x ≤ n := by
  induction l with
  | nil => intro a n; simp
  | cons x l ih =>
    intro a n
    rw [List.foldl_cons, ih]
    simp only [List.mem_cons, forall_eq_or_imp]
    rw [Nat.max_le, and_assoc]
theorem depM_le : ∀ (m : Nat) (x : R17), depM m x ≤ m ↔ depR x ≤ m
  | 0, x => by have := depR_eq x; simp only [depM]; omega
  | m + 1, x => by
    rw [depR_eq, depM]
    have h1 : (x.L.map (depM m)).foldl max 0 ≤ m ↔ depsR x.L ≤ m := by
      rw [foldl_max_le, depsR_le]
      simp only [List.mem_map, forall_exists_index, and_imp, forall_apply_eq_imp_iff₂, Nat.zero_le, true_and]
      exact ⟨fun h y hy => (depM_le m y).1 (h y hy), fun h y hy => (depM_le m y).2 (h y hy)⟩
    omega
theorem depM_bd : ∀ (m : Nat) (x : R17), depM m x ≤ m + 1
  | 0, x => by simp [depM]
  | m + 1, x => by
    rw [depM]
    have : (x.L.map (depM m)).foldl max 0 ≤ m + 1 := foldl_max_le.2 ⟨Nat.zero_le _, fun y hy => by
      obtain ⟨z, _, rfl⟩ := List.mem_map.1 hy
      exact depM_bd m z⟩
    omega
theorem deep_L (x : R17) (m : Nat) (hm : m ≤ 8000) (hl : x.L.length ≤ 1000000000) (ih : ∀ y ∈ x.L, Evt (fun k => ref17_deep k y (m : Int)) ((depM m y : Nat) : Int)) : ∀ (n i c : Nat), i + n = x.L.length → c ≤ m + 1 →
    Evt (fun k => ref17_deep_L1 k ((m + 1 : Nat) : Int) x (c : Int) (i : Int)) ((1 + ((x.L.drop i).map (depM m)).foldl max c : Nat) : Int)
  | 0, i, c, hi, hc => by
    refine Evt.succ ?_
    simp only [ref17_deep_L1]
    rw [List.drop_of_length_le (by omega)]
    refine Evt.f (by rw [decide_eq_false_iff_not]; omega) (Evt.eq ?_)
    rw [wrap64 (by omega)]
    simp only [List.map_nil, List.foldl_nil]; omega
  | n + 1, i, c, hi, hc => by
    have h1 : i < x.L.length := by omega
    have hb := depM_bd m x.L[i]
    rw [List.drop_eq_getElem_cons h1, List.map_cons, List.foldl_cons]
    refine Evt.succ ?_
    simp only [ref17_deep_L1]
    rw [wrap64 (by omega : -9223372036854775808 ≤ ((m + 1 : Nat) : Int) - 1 ∧ ((m + 1 : Nat) : Int) - 1 ≤ 9223372036854775807), show ((m + 1 : Nat) : Int) - 1 = (m : Int) by omega]
    refine Evt.t (by rw [decide_eq_true_eq]; omega) (Evt.at (at_nat h1) (Evt.bind (ih _ (List.getElem_mem h1)) ?_))
    have next : ∀ d : Nat, d = max c (depM m x.L[i]) → Evt (fun k => ref17_deep_J1 k ((m + 1 : Nat) : Int) x (d : Int) (i : Int)) ((1 + ((x.L.drop (i + 1)).map (depM m)).foldl max (max c (depM m x.L[i])) : Nat) : Int) := by
      intro d hd
      refine Evt.succ ?_
      simp only [ref17_deep_J1]
      rw [iw (by omega), ← hd]
      exact deep_L x m hm hl ih n (i + 1) d (by omega) (by omega)
    by_cases hgt : c < depM m x.L[i]
    · exact Evt.t (by rw [decide_eq_true_eq]; omega) (next _ (by omega))
    · exact Evt.f (by rw [decide_eq_false_iff_not]; omega) (next c (by omega))
theorem deep_ev : ∀ (m : Nat) (x : R17), m ≤ 8000 → szR x ≤ 1000000000 → Evt (fun k => ref17_deep k x (m : Int)) ((depM m x : Nat) : Int)
  | 0, x, hm, hz => by
    refine Evt.succ ?_
    simp only [ref17_deep]
    exact Evt.t (by decide) Evt.pure
  | m + 1, x, hm, hz => by
    rw [szR_eq] at hz
    have hl := szsR_len x.L
    refine Evt.succ ?_
    simp only [ref17_deep]
    refine Evt.f (by rw [decide_eq_false_iff_not]; omega) ?_
    exact deep_L x m (by omega) (by omega) (fun y hy => deep_ev m y (by omega) (by have := szsR_mem hy; omega)) x.L.length 0 0 (by omega) (by omega)

/-! Formed. -/
theorem formed_L2 (x : R17) (hl : x.L.length ≤ 1000000000) (ih : ∀ y ∈ x.L, Evt (fun k => ref17_formed k y) (formR y)) : ∀ (n i : Nat), i + n = x.L.length → Evt (fun k => ref17_formed_L2 k x (x.L.length : Int) (i : Int)) ((x.L.drop i).all formR)
  | 0, i, hi => by
    refine Evt.succ ?_
    simp only [ref17_formed_L2]
    rw [List.drop_of_length_le (by omega)]
    exact Evt.f (by rw [decide_eq_false_iff_not]; omega) Evt.pure
  | n + 1, i, hi => by
    have h1 : i < x.L.length := by omega
    rw [List.drop_eq_getElem_cons h1, List.all_cons]
    refine Evt.succ ?_
    simp only [ref17_formed_L2]
    refine Evt.t (by rw [decide_eq_true_eq]; omega) (Evt.at (at_nat h1) (Evt.bind (ih _ (List.getElem_mem h1)) ?_))
    cases hf : formR x.L[i] with
    | false => exact Evt.t rfl Evt.pure
    | true =>
      refine Evt.f rfl ?_
      rw [iw (by omega), Bool.true_and]
      exact formed_L2 x hl ih n (i + 1) (by omega)
theorem nat01 (b : UInt8) : (((b.toNat : Int) != 48) && ((b.toNat : Int) != 49)) = !is01 b := by
  unfold is01
  rw [Bool.eq_iff_iff]
  simp only [Bool.and_eq_true, bne_iff_ne, ne_eq, Bool.not_eq_true', Bool.or_eq_false_iff, beq_eq_false_iff_ne, ← UInt8.toNat_inj]
  have e1 : (48 : UInt8).toNat = 48 := rfl
  have e2 : (49 : UInt8).toNat = 49 := rfl
  omega
theorem formed_L1 (x : R17) (hb : x.Bits.length ≤ 1000000000000000) (r : Bool) (hr : Evt (fun k => ref17_formed_L2 k x (x.L.length : Int) 0) r) : ∀ (n i : Nat), i + n = x.Bits.length → Evt (fun k => ref17_formed_L1 k x (x.L.length : Int) (i : Int)) ((x.Bits.drop i).all is01 && r)
  | 0, i, hi => by
    refine Evt.succ ?_
    simp only [ref17_formed_L1]
    rw [List.drop_of_length_le (by omega)]
    exact Evt.f (by rw [decide_eq_false_iff_not]; omega) hr
  | n + 1, i, hi => by
    have h1 : i < x.Bits.length := by omega
    have h2 := nat01 x.Bits[i]
    rw [List.drop_eq_getElem_cons h1, List.all_cons]
    have next := formed_L1 x hb r hr n (i + 1) (by omega)
    refine Evt.succ ?_
    simp only [ref17_formed_L1]
    refine Evt.t (by rw [decide_eq_true_eq]; omega) (Evt.at (at_nat h1) ?_)
    have jt : Evt (fun k => ref17_formed_J1 k x (x.L.length : Int) (i : Int) true) false := by
      refine Evt.succ ?_
      simp only [ref17_formed_J1]
      exact Evt.pure
    have jf : Evt (fun k => ref17_formed_J1 k x (x.L.length : Int) (i : Int) false) ((x.Bits.drop (i + 1)).all is01 && r) := by
      refine Evt.succ ?_
      simp only [ref17_formed_J1]
      rw [iw (by omega)]
      exact Evt.f rfl next
    cases h48 : ((x.Bits[i].toNat : Int) != 48) with
    | false =>
      rw [h48, Bool.false_and] at h2
      have : is01 x.Bits[i] = true := by simpa using h2.symm
      rw [this, Bool.true_and]
      exact Evt.f rfl jf
    | true =>
      rw [h48, Bool.true_and] at h2
      refine Evt.t rfl (Evt.at (at_nat h1) ?_)
      rw [h2]
      cases hi1 : is01 x.Bits[i] with
      | true => rw [Bool.true_and]; exact jf
      | false => rw [Bool.false_and, Bool.false_and]; exact jt
theorem formed_ev (x : R17) : szR x ≤ 1000000000 → pbR x ≤ 100000000000000 → Evt (fun k => ref17_formed k x) (formR x) := by
  induction x using R17.ind with
  | h x ih =>
    intro hz hp
    have e1 := pbR_eq x
    have hz' := hz
    rw [szR_eq] at hz
    have hl := szsR_len x.L
    refine Evt.succ ?_
    simp only [ref17_formed]
    have hk := formed_L2 x (by omega) (fun y hy => ih y hy (by have := szsR_mem hy; omega) (Nat.le_trans (pbR_mem hy) hp)) x.L.length 0 (by omega)
    have h1 := formed_L1 x (by omega) _ hk x.Bits.length 0 (by omega)
    rw [List.drop_zero, List.drop_zero] at h1
    rw [formR_eq, formsR_all]
    unfold locR
    generalize (((((((decide (x.Kind < 0)) || (decide (x.Kind > 5))) || ((decide (x.Kind < 3)) && (decide ((x.L.length : Int) > 0)))) || ((x.Kind == 3) && ((x.L.length : Int) != 2))) || ((x.Kind == 5) && ((x.L.length : Int) != 1))) || ((x.Kind != 2) && (!(x.Set == (Arr.rep 256 false))))) || ((x.Kind == 0) && (!(x.Bits == ([] : List UInt8))))) = c
    cases c with
    | true => exact Evt.t rfl (Evt.eq (by simp))
    | false => exact Evt.f rfl (h1.cast (by simp))
theorem rGood_ev (x : R17) (hz : szR x ≤ 1000000000) (hp : pbR x ≤ 100000000000000) : Evt (fun k => ref17_Good k x) (goodR x) := by
  refine Evt.succ ?_
  simp only [ref17_Good]
  refine Evt.bind (rsize_ev x hz 20001 (by omega)) ?_
  unfold goodR
  by_cases h : szR x ≤ 20000
  · refine Evt.t (by rw [decide_eq_true_eq]; omega) (Evt.bind (deep_ev 8000 x (by omega) hz) ?_)
    rw [show decide (szR x ≤ 20000) = true by simpa using h, Bool.true_and]
    have hd := depM_le 8000 x
    by_cases h2 : depR x ≤ 8000
    · refine Evt.t (by rw [decide_eq_true_eq]; omega) (Evt.bind (formed_ev x hz hp) (Evt.eq ?_))
      rw [show decide (depR x ≤ 8000) = true by simpa using h2, Bool.true_and]
    · refine Evt.f (by rw [decide_eq_false_iff_not]; omega) (Evt.eq ?_)
      rw [show decide (depR x ≤ 8000) = false by simpa using h2, Bool.false_and]
  · refine Evt.f (by rw [decide_eq_false_iff_not]; omega) (Evt.eq ?_)
    rw [show decide (szR x ≤ 20000) = false by simpa using h, Bool.false_and]
end Go.Am
