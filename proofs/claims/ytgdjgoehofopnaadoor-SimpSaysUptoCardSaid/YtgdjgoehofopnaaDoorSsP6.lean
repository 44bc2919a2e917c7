/- SimpSays, plain law: the reference's rows and its simplification; the law. -/
import Derived.Test.YtgdjgoehofopnaaDoorSsP5
set_option linter.unusedSimpArgs false
set_option linter.unusedVariables false
set_option maxRecDepth 20000
namespace Go.Am
open Go

theorem rfuse_ev (b : List UInt8) (x : R17) (h : b.length + x.Bits.length ≤ 140737488351232) : Evt (fun k => ref17_Fuse k b x) (fuseR b x) := by
  refine Evt.succ ?_
  simp only [ref17_Fuse]
  unfold fuseR
  by_cases hk : x.Kind = 0
  · rw [if_pos hk]
    exact Evt.f (by simp [hk]) Evt.pure
  · rw [if_neg hk]
    exact Evt.t (by simp [hk]) (Evt.need h Evt.pure)
theorem rflat_L2 (l : List R17) (j : Nat) (hj : j < l.length) (hv : ∀ y ∈ l[j].L, l[j].Bits.length + y.Bits.length ≤ 140737488351232) {r : List R17} : ∀ (n i : Nat) (acc : List R17), i + n = l[j].L.length → acc.length + n ≤ 300000000000 → i + n ≤ 1000000000 →
    Evt (fun k => ref17_Flat_J1 k l (acc ++ (l[j].L.drop i).map (fuseR l[j].Bits)) (j : Int)) r → Evt (fun k => ref17_Flat_L2 k l acc (j : Int) (i : Int)) r
  | 0, i, acc, hi, ha, hb, h => by
    refine Evt.succ ?_
    simp only [ref17_Flat_L2]
    rw [List.drop_of_length_le (by omega), List.map_nil, List.append_nil] at h
    exact Evt.at (at_nat hj) (Evt.f (by rw [decide_eq_false_iff_not]; omega) h)
  | n + 1, i, acc, hi, ha, hb, h => by
    have h1 : i < l[j].L.length := by omega
    refine Evt.succ ?_
    simp only [ref17_Flat_L2]
    rw [iw (by omega)]
    refine Evt.at (at_nat hj) (Evt.t (by rw [decide_eq_true_eq]; omega) (Evt.at (at_nat hj) (Evt.at (at_nat hj) (Evt.at (at_nat h1) (Evt.bind (rfuse_ev _ _ (hv _ (List.getElem_mem h1))) (Evt.need (by simp only [List.length_singleton]; omega) ?_))))))
    refine rflat_L2 l j hj hv n (i + 1) _ (by omega) (by simp only [List.length_append, List.length_singleton]; omega) (by omega) ?_
    rw [List.drop_eq_getElem_cons h1, List.map_cons] at h
    rw [List.append_assoc]; exact h
theorem rflat_L (l : List R17) (hl : l.length ≤ 1000000000) (hv : ∀ v ∈ l, ∀ y ∈ v.L, v.Kind = 4 → v.Bits.length + y.Bits.length ≤ 140737488351232) : ∀ (n i : Nat) (acc : List R17), i + n = l.length → acc.length + (flatR (l.drop i)).length ≤ 1000000000 →
    Evt (fun k => ref17_Flat_L1 k l acc (i : Int)) (acc ++ flatR (l.drop i))
  | 0, i, acc, hi, ha => by
    refine Evt.succ ?_
    simp only [ref17_Flat_L1]
    rw [List.drop_of_length_le (by omega)]
    exact Evt.f (by rw [decide_eq_false_iff_not]; omega) (Evt.eq (by simp [flatR]))
  | n + 1, i, acc, hi, ha => by
    have h1 : i < l.length := by omega
    have hd : flatR (l.drop i) = rowR l[i] ++ flatR (l.drop (i + 1)) := by rw [List.drop_eq_getElem_cons h1]; rfl
    rw [hd, List.length_append] at ha
    have next : Evt (fun k => ref17_Flat_J1 k l (acc ++ rowR l[i]) (i : Int)) (acc ++ flatR (l.drop i)) := by
      refine Evt.succ ?_
      simp only [ref17_Flat_J1]
      rw [iw (by omega), hd, ← List.append_assoc]
      exact rflat_L l hl hv n (i + 1) _ (by omega) (by rw [List.length_append]; omega)
    refine Evt.succ ?_
    simp only [ref17_Flat_L1]
    refine Evt.t (by rw [decide_eq_true_eq]; omega) (Evt.at (at_nat h1) ?_)
    by_cases h0 : l[i].Kind = 0
    · refine Evt.t (by simp [h0]) ?_
      rw [show rowR l[i] = [] from if_pos h0, List.append_nil] at next
      exact next
    · refine Evt.f (by simp [h0]) ?_
      by_cases h4 : l[i].Kind = 4
      · refine Evt.t (by simp [h4]) ?_
        have hr : rowR l[i] = l[i].L.map (fuseR l[i].Bits) := by unfold rowR; rw [if_neg h0, if_pos h4]
        rw [hr] at next ha
        rw [List.length_map] at ha
        refine rflat_L2 l i h1 (fun y hy => hv _ (List.getElem_mem h1) y hy h4) l[i].L.length 0 acc (by omega) (by omega) (by omega) ?_
        rw [List.drop_zero]; exact next
      · refine Evt.f (by simp [h4]) (Evt.at (at_nat h1) ?_)
        have hr : rowR l[i] = [l[i]] := by unfold rowR; rw [if_neg h0, if_neg h4]
        rw [hr] at next ha
        simp only [List.length_singleton] at ha
        exact Evt.need (by simp only [List.length_singleton]; omega) next
theorem rflat_ev (l : List R17) (hl : l.length ≤ 1000000000) (hv : ∀ v ∈ l, ∀ y ∈ v.L, v.Kind = 4 → v.Bits.length + y.Bits.length ≤ 140737488351232) (hf : (flatR l).length ≤ 1000000000) : Evt (fun k => ref17_Flat k l) (flatR l) := by
  refine Evt.succ ?_
  simp only [ref17_Flat]
  have := rflat_L l hl hv l.length 0 [] (by omega) (by rw [List.drop_zero, List.length_nil]; omega)
  rw [List.drop_zero, List.nil_append] at this
  exact this

/-! Alike. -/
theorem rsame_L (x y : R17) (hlen : x.L.length = y.L.length) (hl : x.L.length ≤ 1000000000) (ih : ∀ a ∈ x.L, ∀ b, Evt (fun k => ref17_Same k a b) (sameR a b)) : ∀ (n i : Nat), i + n = x.L.length → Evt (fun k => ref17_Same_L1 k x y (i : Int)) (samesR (x.L.drop i) (y.L.drop i))
  | 0, i, hi => by
    refine Evt.succ ?_
    simp only [ref17_Same_L1]
    rw [List.drop_of_length_le (by omega), List.drop_of_length_le (by omega)]
    exact Evt.f (by rw [decide_eq_false_iff_not]; omega) Evt.pure
  | n + 1, i, hi => by
    have h1 : i < x.L.length := by omega
    have h2 : i < y.L.length := by omega
    rw [List.drop_eq_getElem_cons h1, List.drop_eq_getElem_cons h2, samesR]
    refine Evt.succ ?_
    simp only [ref17_Same_L1]
    refine Evt.t (by rw [decide_eq_true_eq]; omega) (Evt.at (at_nat h1) (Evt.at (at_nat h2) (Evt.bind (ih _ (List.getElem_mem h1) _) ?_)))
    cases hs : sameR x.L[i] y.L[i] with
    | false => exact Evt.t rfl Evt.pure
    | true =>
      refine Evt.f rfl ?_
      rw [iw (by omega), Bool.true_and]
      exact rsame_L x y hlen hl ih n (i + 1) (by omega)
theorem samesR_len : ∀ {a b : List R17}, a.length ≠ b.length → samesR a b = false
  | [], [], h => absurd rfl h
  | [], _ :: _, _ => rfl
  | _ :: _, [], _ => rfl
  | x :: a, y :: b, h => by rw [samesR, samesR_len (by simpa using h), Bool.and_false]
theorem rsame_ev (x : R17) : szR x ≤ 1000000000 → ∀ y, Evt (fun k => ref17_Same k x y) (sameR x y) := by
  induction x using R17.ind with
  | h x ih =>
    intro hz y
    rw [szR_eq] at hz
    have hl := szsR_len x.L
    refine Evt.succ ?_
    simp only [ref17_Same]
    rw [sameR_eq]
    have hset : (!(x.Set == y.Set)) = !(x.Set.l == y.Set.l) := rfl
    have hL : x.L.length = y.L.length → Evt (fun k => ref17_Same_L1 k x y 0) (samesR x.L y.L) := fun h => by
      have := rsame_L x y h (by omega) (fun a ha b => ih a ha (by have := szsR_mem ha; omega) b) x.L.length 0 (by omega)
      rw [List.drop_zero, List.drop_zero] at this
      exact this
    cases hk : x.Kind == y.Kind with
    | false =>
      have hk' : (x.Kind != y.Kind) = true := by simp [bne, hk]
      rw [hk']
      exact Evt.t rfl (Evt.eq (by simp))
    | true =>
      have hk' : (x.Kind != y.Kind) = false := by simp [bne, hk]
      rw [hk', hset]
      cases hs : x.Set.l == y.Set.l with
      | false => exact Evt.t rfl (Evt.eq (by simp))
      | true =>
        by_cases hlen : x.L.length = y.L.length
        · refine Evt.f (by simp [hlen]) ?_
          simpa using hL hlen
        · refine Evt.t (by simp; omega) (Evt.eq ?_)
          rw [samesR_len hlen]; simp

theorem ronce_L2 (l : List R17) (i : Nat) (hi : i < l.length) (acc : List R17) (ha : acc.length ≤ 1000000000) (hz : ∀ x ∈ acc, szR x ≤ 1000000000) {r : List R17}
    (ht : acc.any (fun y => sameR y l[i]) = true → Evt (fun k => ref17_Once_J2 k l acc (i : Int)) r) (hf : acc.any (fun y => sameR y l[i]) = false → Evt (fun k => ref17_Once_J2 k l (acc ++ [l[i]]) (i : Int)) r) :
    ∀ (n j : Nat) (b : Bool), j + n = acc.length → b = (acc.take j).any (fun y => sameR y l[i]) → Evt (fun k => ref17_Once_L2 k l acc (i : Int) b (j : Int)) r
  | 0, j, b, hj, hb => by
    rw [List.take_of_length_le (by omega)] at hb
    refine Evt.succ ?_
    simp only [ref17_Once_L2]
    refine Evt.f (by rw [decide_eq_false_iff_not]; omega) ?_
    cases b with
    | true => exact Evt.f rfl (ht hb.symm)
    | false => exact Evt.t rfl (Evt.at (at_nat hi) (Evt.need (by simp only [List.length_singleton]; omega) (hf hb.symm)))
  | n + 1, j, b, hj, hb => by
    have h1 : j < acc.length := by omega
    have hnext : ∀ b', b' = (acc.take (j + 1)).any (fun y => sameR y l[i]) → Evt (fun k => ref17_Once_J1 k l acc (i : Int) (j : Int) b') r := fun b' hb' => by
      refine Evt.succ ?_
      simp only [ref17_Once_J1]
      rw [iw (by omega)]
      exact ronce_L2 l i hi acc ha hz ht hf n (j + 1) b' (by omega) hb'
    rw [List.take_succ_eq_append_getElem h1, List.any_append, ← hb] at hnext
    refine Evt.succ ?_
    simp only [ref17_Once_L2]
    refine Evt.t (by rw [decide_eq_true_eq]; omega) ?_
    cases b with
    | true => exact Evt.t rfl (hnext true (by simp))
    | false =>
      refine Evt.f rfl (Evt.at (at_nat h1) (Evt.at (at_nat hi) (Evt.bind (rsame_ev _ (hz _ (List.getElem_mem h1)) _) ?_)))
      exact hnext _ (by simp)
theorem ronce_L (l : List R17) (hl : l.length ≤ 1000000000) (hz : ∀ x ∈ l, szR x ≤ 1000000000) : ∀ (n i : Nat) (acc : List R17), i + n = l.length → acc.length ≤ i → (∀ x ∈ acc, szR x ≤ 1000000000) →
    Evt (fun k => ref17_Once_L1 k l acc (i : Int)) (onceR acc (l.drop i))
  | 0, i, acc, hi, ha, hza => by
    refine Evt.succ ?_
    simp only [ref17_Once_L1]
    rw [List.drop_of_length_le (by omega)]
    exact Evt.f (by rw [decide_eq_false_iff_not]; omega) Evt.pure
  | n + 1, i, acc, hi, ha, hza => by
    have h1 : i < l.length := by omega
    refine Evt.succ ?_
    simp only [ref17_Once_L1]
    rw [List.drop_eq_getElem_cons h1, onceR]
    refine Evt.t (by rw [decide_eq_true_eq]; omega) (ronce_L2 l i h1 acc (by omega) hza ?_ ?_ acc.length 0 false (by omega) (by simp))
    · intro hc
      rw [if_pos hc]
      refine Evt.succ ?_
      simp only [ref17_Once_J2]
      rw [iw (by omega)]
      exact ronce_L l hl hz n (i + 1) acc (by omega) (by omega) hza
    · intro hc
      rw [if_neg (by simp [hc])]
      refine Evt.succ ?_
      simp only [ref17_Once_J2]
      rw [iw (by omega)]
      refine ronce_L l hl hz n (i + 1) _ (by omega) (by simp only [List.length_append, List.length_singleton]; omega) ?_
      intro x hx'; rcases List.mem_append.1 hx' with h | h
      · exact hza x h
      · simp at h; subst h; exact hz _ (List.getElem_mem h1)
theorem ronce_ev (l : List R17) (hl : l.length ≤ 1000000000) (hz : ∀ x ∈ l, szR x ≤ 1000000000) : Evt (fun k => ref17_Once k l) (onceR [] l) := by
  refine Evt.succ ?_
  simp only [ref17_Once]
  exact ronce_L l hl hz l.length 0 [] (by omega) (by simp) (by simp)

/-! The reference's simplification. -/
theorem bits_le (x : R17) : x.Bits.length ≤ pbR x := by rw [pbR_eq]; omega
theorem rsimp_L (x v2 : R17) (hz : szR x ≤ 1000000000) (hp : pbR x ≤ 100000000000000) (h4 : x.Kind = 4) (ih : ∀ y ∈ x.L, Evt (fun k => ref17_simp k y) (simpR y)) : ∀ (n i : Nat) (acc : List R17), i + n = x.L.length → acc = (x.L.take i).map simpR →
    Evt (fun k => ref17_simp_L1 k x v2 acc (i : Int)) (finR x (x.L.map simpR))
  | 0, i, acc, hi, ha => by
    have hi' : i = x.L.length := by omega
    subst hi'
    rw [List.take_length] at ha
    rw [← ha]
    have e0 := szR_eq x
    have e1 := pbR_eq x
    rw [if_neg (by omega)] at e1
    have hs : szsR acc ≤ szsR x.L := by rw [ha]; exact szsR_simp _
    have hps : pbsR acc ≤ pbsR x.L := by
      rw [ha]
      refine pbsR_le fun y hy => ?_
      obtain ⟨z, hz, rfl⟩ := List.mem_map.1 hy
      exact Nat.le_trans (pbR_simp z) (pbsR_mem hz)
    have hl := szsR_len acc
    have hfz := szsR_flat acc
    have hfl := szsR_len (flatR acc)
    have hfin : finR x acc = (match onceR [] (flatR acc) with
      | [] => zeroR
      | [a] => fuseR x.Bits a
      | l => ⟨4, x.Bits, zs, l⟩) := by
      unfold finR; rw [if_neg (by omega), if_pos h4]; rfl
    rw [hfin]
    have hv : ∀ v ∈ acc, ∀ y ∈ v.L, v.Kind = 4 → v.Bits.length + y.Bits.length ≤ 140737488351232 := by
      intro v hv y hy hk
      have a1 := pbsR_mem hv
      have a2 := pbR_eq v
      rw [if_neg (by omega)] at a2
      have a3 := pbsR_mem hy
      have a4 := bits_le y
      omega
    refine Evt.succ ?_
    simp only [ref17_simp_L1]
    refine Evt.f (by rw [decide_eq_false_iff_not]; omega) (Evt.bind (rflat_ev acc (by omega) hv (by omega)) (Evt.bind (ronce_ev (flatR acc) (by omega) fun y hy => by have := szsR_mem hy; omega) ?_))
    have hmem : ∀ a ∈ onceR [] (flatR acc), pbR a ≤ pbsR acc := by
      intro a ha
      rcases mem_once ha with h | h
      · cases h
      · exact mem_flat h
    match ho : onceR [] (flatR acc) with
    | [] => exact Evt.t rfl Evt.pure
    | [a] =>
      rw [ho] at hmem
      have a1 := hmem a (by simp)
      have a2 := bits_le a
      exact Evt.f rfl (Evt.t rfl (Evt.at (y := a) rfl (Evt.bind (rfuse_ev _ a (by omega)) Evt.pure)))
    | a :: b :: l => exact Evt.f (by simp; omega) (Evt.f (by simp; omega) Evt.pure)
  | n + 1, i, acc, hi, ha => by
    have h1 : i < x.L.length := by omega
    have e0 := szR_eq x
    have hl := szsR_len x.L
    have hacc : acc.length = i := by rw [ha, List.length_map, List.length_take]; omega
    refine Evt.succ ?_
    simp only [ref17_simp_L1]
    rw [iw (by omega)]
    refine Evt.t (by rw [decide_eq_true_eq]; omega) (Evt.at (at_nat h1) (Evt.bind (ih _ (List.getElem_mem h1)) (Evt.need (by simp only [List.length_singleton]; omega) ?_)))
    refine rsimp_L x v2 hz hp h4 ih n (i + 1) _ (by omega) ?_
    rw [ha, List.take_succ_eq_append_getElem h1, List.map_append]
    rfl
theorem rsimp_ev (x : R17) : szR x ≤ 1000000000 → pbR x ≤ 100000000000000 → formR x = true → Evt (fun k => ref17_simp k x) (simpR x) := by
  induction x using R17.ind with
  | h x ih =>
    intro hz hp hf
    have e0 := szR_eq x
    have e1 := pbR_eq x
    have hkids : ∀ y ∈ x.L, Evt (fun k => ref17_simp k y) (simpR y) := by
      intro y hy
      refine ih y hy (by have := szsR_mem hy; omega) (Nat.le_trans (pbR_mem hy) hp) ?_
      rw [formR_eq, Bool.and_eq_true, formsR_all] at hf
      exact List.all_eq_true.1 hf.2 _ hy
    rw [simpR_eq]
    refine Evt.succ ?_
    simp only [ref17_simp]
    by_cases h3 : x.Kind = 3
    · obtain ⟨a, b, hab⟩ := len2 (two_of_form hf h3)
      rw [hab] at hkids e1 ⊢
      rw [if_pos h3] at e1
      simp only [pbtR] at e1
      have pa := pbR_simp a
      have pb := pbR_simp b
      have qa := bits_le (simpR a)
      have qb := bits_le (simpR b)
      refine Evt.t (by simp [h3]) (Evt.at (y := a) rfl (Evt.bind (hkids a (by simp)) (Evt.at (y := b) rfl (Evt.bind (hkids b (by simp)) ?_))))
      have hfin : finR x ([a, b].map simpR) = if (simpR a).Kind = 0 ∨ (simpR b).Kind = 0 then zeroR else if (simpR a).Kind = 1 then fuseR (x.Bits ++ (simpR a).Bits) (simpR b) else ⟨3, x.Bits, zs, [simpR a, simpR b]⟩ := by
        unfold finR; rw [if_pos h3]; rfl
      rw [hfin]
      have tail : (¬ ((simpR a).Kind = 0 ∨ (simpR b).Kind = 0)) → Evt (fun k => if ((simpR a).Kind == 1) = true then (Am.need (x.Bits.length + (simpR a).Bits.length ≤ 140737488351232) <| (ref17_Fuse k (x.Bits ++ (simpR a).Bits) (simpR b)).bind fun y39 => some y39) else some (T_ref17_Coded.mk 3 x.Bits (Arr.rep 256 false) [simpR a, simpR b])) (if (simpR a).Kind = 1 then fuseR (x.Bits ++ (simpR a).Bits) (simpR b) else ⟨3, x.Bits, zs, [simpR a, simpR b]⟩) := by
        intro hn
        by_cases ha : (simpR a).Kind = 1
        · rw [if_pos ha]
          exact Evt.t (by simp [ha]) (Evt.need (by omega) (Evt.bind (rfuse_ev _ _ (by rw [List.length_append]; omega)) Evt.pure))
        · rw [if_neg ha]
          exact Evt.f (by simp [ha]) Evt.pure
      by_cases h0 : (simpR a).Kind = 0 ∨ (simpR b).Kind = 0
      · rw [if_pos h0]
        refine Evt.t (by rcases h0 with h | h <;> simp [h]) Evt.pure
      · rw [if_neg h0]
        refine Evt.f (by simp; omega) (tail h0)
    · refine Evt.f (by simp [h3]) ?_
      by_cases h4 : x.Kind = 4
      · refine Evt.t (by simp [h4]) ?_
        exact rsimp_L x _ hz hp h4 hkids x.L.length 0 [] (by omega) rfl
      · refine Evt.f (by simp [h4]) (Evt.eq ?_)
        unfold finR
        rw [if_neg h3, if_neg h4]
theorem rSimp_ev (x : R17) (hz : szR x ≤ 1000000000) (hp : pbR x ≤ 100000000000000) : Evt (fun k => ref17_Simp k x) (if goodR x then simpR x else x) := by
  refine Evt.succ ?_
  simp only [ref17_Simp]
  refine Evt.bind (rGood_ev x hz hp) ?_
  cases hg : goodR x with
  | false => exact Evt.t rfl Evt.pure
  | true =>
    refine Evt.f rfl (Evt.bind (rsimp_ev x hz hp ?_) Evt.pure)
    unfold goodR at hg
    simp only [Bool.and_eq_true] at hg
    exact hg.2.2

/-! Each is like itself. -/
theorem alike_L (x : R17) (hl : x.L.length ≤ 1000000000) (ih : ∀ y ∈ x.L, Evt (fun k => ref17_Alike k y y) true) : ∀ (n i : Nat), i + n = x.L.length → Evt (fun k => ref17_Alike_L1 k x x (i : Int)) true
  | 0, i, hi => by
    refine Evt.succ ?_
    simp only [ref17_Alike_L1]
    exact Evt.f (by rw [decide_eq_false_iff_not]; omega) Evt.pure
  | n + 1, i, hi => by
    have h1 : i < x.L.length := by omega
    refine Evt.succ ?_
    simp only [ref17_Alike_L1]
    refine Evt.t (by rw [decide_eq_true_eq]; omega) (Evt.at (at_nat h1) (Evt.at (at_nat h1) (Evt.bind (ih _ (List.getElem_mem h1)) (Evt.f rfl ?_))))
    rw [iw (by omega)]
    exact alike_L x hl ih n (i + 1) (by omega)
theorem alike_ev (x : R17) : szR x ≤ 1000000000 → Evt (fun k => ref17_Alike k x x) true := by
  induction x using R17.ind with
  | h x ih =>
    intro hz
    rw [szR_eq] at hz
    have hl := szsR_len x.L
    refine Evt.succ ?_
    simp only [ref17_Alike]
    have hs : (x.Set == x.Set) = true := by show (x.Set.l == x.Set.l) = true; simp
    refine Evt.f (by rw [hs]; simp) ?_
    exact alike_L x (by omega) (fun y hy => ih y hy (by have := szsR_mem hy; omega)) x.L.length 0 (by omega)

/-! More than is asked? -/
theorem vast_L (x : C17) (d : Nat) (hd : d ≤ 30) (hl : x.L.length ≤ 1000000000) (ih : ∀ y ∈ x.L, ∃ b, Evt (fun k => law18_vast k y ((d : Nat) : Int)) b) : ∀ (n i : Nat), i + n = x.L.length → ∃ b, Evt (fun k => law18_vast_L1 k ((d + 1 : Nat) : Int) x (i : Int)) b
  | 0, i, hi => ⟨false, by
    refine Evt.succ ?_
    simp only [law18_vast_L1]
    exact Evt.f (by rw [decide_eq_false_iff_not]; omega) Evt.pure⟩
  | n + 1, i, hi => by
    have h1 : i < x.L.length := by omega
    obtain ⟨b, hb⟩ := ih _ (List.getElem_mem h1)
    obtain ⟨c, hc⟩ := vast_L x d hd hl ih n (i + 1) (by omega)
    refine ⟨if b = true then true else c, ?_⟩
    refine Evt.succ ?_
    simp only [law18_vast_L1]
    rw [wrap64 (by omega : -9223372036854775808 ≤ ((d + 1 : Nat) : Int) - 1 ∧ ((d + 1 : Nat) : Int) - 1 ≤ 9223372036854775807), show ((d + 1 : Nat) : Int) - 1 = (d : Int) by omega, iw (by omega)]
    refine Evt.t (by rw [decide_eq_true_eq]; omega) (Evt.at (at_nat h1) (Evt.bind hb ?_))
    cases b with
    | true => exact Evt.t rfl Evt.pure
    | false => exact Evt.f rfl hc
theorem vast_ev : ∀ (d : Nat) (x : C17), d ≤ 30 → szR (conv x) ≤ 1000000000 → ∃ b, Evt (fun k => law18_vast k x (d : Int)) b
  | 0, x, hd, hz => ⟨true, by
    refine Evt.succ ?_
    simp only [law18_vast]
    exact Evt.t (by simp) Evt.pure⟩
  | d + 1, x, hd, hz => by
    rw [szR_eq, conv_L] at hz
    have hl := szsR_map_len x.L
    obtain ⟨b, hb⟩ := vast_L x d (by omega) (by omega) (fun y hy => vast_ev d y (by omega) (by have := szsR_mem (List.mem_map_of_mem (f := conv) hy); omega)) x.L.length 0 (by omega)
    cases hc : (((decide (((d + 1 : Nat) : Int) < 1)) || (decide ((x.L.length : Int) > 20))) || (decide ((x.Bits.length : Int) > 60))) with
    | true =>
      refine ⟨true, ?_⟩
      refine Evt.succ ?_
      simp only [law18_vast]
      rw [hc]
      exact Evt.t rfl Evt.pure
    | false =>
      refine ⟨b, ?_⟩
      refine Evt.succ ?_
      simp only [law18_vast]
      rw [hc]
      exact Evt.f rfl hb
end Go.Am
