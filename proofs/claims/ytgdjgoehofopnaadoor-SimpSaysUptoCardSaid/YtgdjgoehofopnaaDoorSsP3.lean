/- SimpSays, plain law: what may be; the program's simplification. -/
import Derived.Test.YtgdjgoehofopnaaDoorSsP2
set_option linter.unusedSimpArgs false
set_option linter.unusedVariables false
set_option maxRecDepth 20000
namespace Go.Am
open Go

/-! What may be. -/
def locR (x : R17) : Bool :=
  !((((((((decide (x.Kind < 0)) || (decide (x.Kind > 5))) || ((decide (x.Kind < 3)) && (decide ((x.L.length : Int) > 0)))) || ((x.Kind == 3) && ((x.L.length : Int) != 2))) || ((x.Kind == 5) && ((x.L.length : Int) != 1))) || ((x.Kind != 2) && (!(x.Set == (Arr.rep 256 false))))) || ((x.Kind == 0) && (!(x.Bits == ([] : List UInt8)))))) && x.Bits.all is01
mutual
def formR : R17 → Bool
  | ⟨k, b, s, l⟩ => locR ⟨k, b, s, l⟩ && formsR l
termination_by structural x => x
def formsR : List R17 → Bool
  | [] => true
  | x :: xs => formR x && formsR xs
termination_by structural x => x
end
theorem formR_eq (x : R17) : formR x = (locR x && formsR x.L) := by cases x; rw [formR]
theorem formsR_all : ∀ l, formsR l = l.all formR
  | [] => rfl
  | x :: l => by rw [formsR, formsR_all l]; rfl
mutual
def depR : R17 → Nat
  | ⟨_, _, _, l⟩ => 1 + depsR l
termination_by structural x => x
def depsR : List R17 → Nat
  | [] => 0
  | x :: xs => max (depR x) (depsR xs)
termination_by structural x => x
end
theorem depR_eq (x : R17) : depR x = 1 + depsR x.L := by cases x; rw [depR]
theorem depsR_le : ∀ {l : List R17} {n : Nat}, depsR l ≤ n ↔ ∀ x ∈ l, depR x ≤ n
  | [], n => by simp [depsR]
  | x :: l, n => by
    have := depsR_le (l := l) (n := n)
    simp only [depsR, List.mem_cons, forall_eq_or_imp, ← this]
    omega

theorem set_zero_eq {s : Arr Int 4} (h : wokS s) : ((convS s) == (Arr.rep 256 false)) = (s == Arr.rep 4 0) := by
  have hz : wokS (Arr.rep 4 0) := fun z hz => by
    have : z = 0 := List.eq_of_mem_replicate hz
    omega
  have := convS_inj h hz
  rw [convS_zero] at this
  exact this

/-- The program's good, at one word. -/
theorem good_ev (x : C17) : ∀ d : Int, 0 ≤ d → d ≤ 8000 → wok x → x.ok → szR (conv x) ≤ 1000000000 → Evt (fun k => coded_good k x d) (decide ((depR (conv x) : Int) ≤ d) && formR (conv x)) := by
  induction x using C17.ind with
  | h x ih =>
    intro d hd0 hd1 hw hok hz
    have hw' := (wok_iff x).1 hw
    have hok' := (T_coded_Coded.ok_iff x).1 hok
    have hz' : szsR (x.L.map conv) ≤ 1000000000 := by rw [szR_eq, conv_L] at hz; omega
    have hl := szsR_map_len x.L
    have hbits : x.Bits.length ≤ 140737488351232 := hok'.2.1
    have hdep : depR (conv x) = 1 + depsR (x.L.map conv) := by rw [depR_eq, conv_L]
    obtain ⟨u, hu1, hu2⟩ := trim_ev x.Bits hbits
    by_cases hd : d < 1
    · refine Evt.succ ?_
      simp only [coded_good]
      refine Evt.t (by simpa using hd) ?_
      refine Evt.succ ?_
      simp only [coded_good_J1]
      refine Evt.t rfl (Evt.eq ?_)
      rw [show decide ((depR (conv x) : Int) ≤ d) = false by rw [decide_eq_false_iff_not]; omega]
      rfl
    refine Evt.succ ?_
    simp only [coded_good]
    refine Evt.f (by simpa using hd) (Evt.bind hu1 ?_)
    rw [hu2]
    -- all below
    have hkids : Evt (fun k => slices_ContainsFunc_Lcoded_Coded_coded_Coded k x.L (fun a0 => coded_good_c1 k a0 d)) (x.L.any fun y => !(decide ((depR (conv y) : Int) ≤ d - 1) && formR (conv y))) := by
      refine any_ev (by omega) (fun k a0 => coded_good_c1 k a0 d) fun y hy => ?_
      refine Evt.succ ?_
      simp only [coded_good_c1]
      rw [wrap64 (by omega)]
      refine Evt.bind (ih y hy (d - 1) (by omega) (by omega) (hw'.2 y hy) (hok'.2.2.2 y hy) ?_) Evt.pure
      have := szsR_mem (List.mem_map_of_mem (f := conv) hy); omega
    have hall : (!(x.L.any fun y => !(decide ((depR (conv y) : Int) ≤ d - 1) && formR (conv y)))) = (decide ((depR (conv x) : Int) ≤ d) && formsR (x.L.map conv)) := by
      rw [hdep, formsR_all, List.not_any_eq_all_not, Bool.eq_iff_iff]
      simp only [Bool.not_not, Bool.and_eq_true, decide_eq_true_eq, List.all_map, List.all_eq_true, Function.comp]
      constructor
      · intro h
        have h1 : depsR (x.L.map conv) ≤ (d - 1).toNat := depsR_le.2 fun z hz => by
          obtain ⟨y, hy, rfl⟩ := List.mem_map.1 hz
          have := (h y hy).1; omega
        exact ⟨by omega, fun y hy => (h y hy).2⟩
      · rintro ⟨h1, h2⟩ y hy
        have h3 : depsR (x.L.map conv) ≤ (d - 1).toNat := by omega
        have := depsR_le.1 h3 _ (List.mem_map_of_mem (f := conv) hy)
        exact ⟨by omega, h2 y hy⟩
    have hform : formR (conv x) = (locR (conv x) && formsR (x.L.map conv)) := by rw [formR_eq, conv_L]
    have hloc : locR (conv x) = (!((((((((decide (x.Kind < 0)) || (decide (x.Kind > 5))) || ((decide (x.Kind < 3)) && (decide ((x.L.length : Int) > 0)))) || ((x.Kind == 3) && ((x.L.length : Int) != 2))) || ((x.Kind == 5) && ((x.L.length : Int) != 1))) || ((x.Kind != 2) && (!(x.Set == (Arr.rep 4 0))))) || ((x.Kind == 0) && (!(x.Bits == ([] : List UInt8)))))) && x.Bits.all is01) := by
      unfold locR
      rw [conv_Kind, conv_L, conv_Bits, List.length_map, show (conv x).Set = convS x.Set by rw [conv_eq], set_zero_eq hw'.1]
    refine Evt.succ ?_
    simp only [coded_good_J1]
    rw [hform, hloc]
    cases hb : x.Bits.all is01 with
    | false => exact Evt.t rfl (Evt.eq (by simp))
    | true =>
      cases hs : (x.Kind != 2) && (!(x.Set == (Arr.rep 4 0))) with
      | true => exact Evt.t (by simp) (Evt.eq (by simp))
      | false =>
        refine Evt.f (by simp) ?_
        have fin : ∀ {c : Bool} (hc : c = (!(((((((decide (x.Kind < 0)) || (decide (x.Kind > 5))) || ((decide (x.Kind < 3)) && (decide ((x.L.length : Int) > 0)))) || ((x.Kind == 3) && ((x.L.length : Int) != 2))) || ((x.Kind == 5) && ((x.L.length : Int) != 1))) || false) || ((x.Kind == 0) && (!(x.Bits == ([] : List UInt8))))))),
            Evt (fun k => if c = true then (slices_ContainsFunc_Lcoded_Coded_coded_Coded k x.L (fun a0 => coded_good_c1 k a0 d)).bind fun y53 => some (!y53) else some false) (decide ((depR (conv x) : Int) ≤ d) && (((!(((((((decide (x.Kind < 0)) || (decide (x.Kind > 5))) || ((decide (x.Kind < 3)) && (decide ((x.L.length : Int) > 0)))) || ((x.Kind == 3) && ((x.L.length : Int) != 2))) || ((x.Kind == 5) && ((x.L.length : Int) != 1))) || false) || ((x.Kind == 0) && (!(x.Bits == ([] : List UInt8)))))) && true) && formsR (x.L.map conv))) := by
          intro c hc
          rw [← hc]
          cases c with
          | false => exact Evt.f rfl (Evt.eq (by simp))
          | true =>
            refine Evt.t rfl (Evt.bind hkids (Evt.eq ?_))
            rw [hall]; simp
        by_cases h0 : x.Kind = 0
        · refine Evt.t (by simp [h0]) ?_
          by_cases hbb : (x.Bits == ([] : List UInt8)) = true
          · refine Evt.f (by simp [hbb]) ?_
            refine fin ?_
            rw [h0, hbb]
            rw [Bool.eq_iff_iff]; simp <;> omega
          · have hbb := bf hbb
            exact Evt.t (by simp [hbb]) (Evt.eq (by simp [h0, hbb]))
        · refine Evt.f (by simp [h0]) ?_
          by_cases h1 : x.Kind = 1
          · refine Evt.t (by simp [h1]) ?_
            refine Evt.succ ?_
            simp only [coded_good_J2]
            refine Evt.t (by simp [h1]) (fin ?_)
            rw [h1]
            rw [Bool.eq_iff_iff]; simp <;> omega
          · refine Evt.f (by simp [h1]) ?_
            refine Evt.succ ?_
            simp only [coded_good_J2]
            by_cases h2 : x.Kind = 2
            · refine Evt.t (by simp [h2]) (fin ?_)
              rw [h2]
              rw [Bool.eq_iff_iff]; simp <;> omega
            · refine Evt.f (by simp [h2]) ?_
              by_cases h3 : x.Kind = 3
              · refine Evt.t (by simp [h3]) (fin ?_)
                rw [h3]
                rw [Bool.eq_iff_iff]; simp
              · refine Evt.f (by simp [h3]) ?_
                by_cases h4 : x.Kind = 4
                · refine Evt.t (by simp [h4]) (fin ?_)
                  rw [h4]
                  rw [Bool.eq_iff_iff]; simp
                · refine Evt.f (by simp [h4]) ?_
                  by_cases h5 : x.Kind = 5
                  · refine Evt.t (by simp [h5]) (fin ?_)
                    rw [h5]
                    rw [Bool.eq_iff_iff]; simp
                  · refine Evt.f (by simp [h5]) (Evt.eq ?_)
                    have : (decide (x.Kind < 0) || decide (x.Kind > 5)) = true := by simp; omega
                    rw [this]; simp

theorem size_L (l : List C17) (ih : ∀ y ∈ l, Evt (fun k => coded_Size k y) ((szR (conv y) : Nat) : Int)) : ∀ (n i acc : Nat), i + n = l.length → acc + szsR ((l.drop i).map conv) ≤ 1000000000 → l.length ≤ 1000000000 →
    Evt (fun k => coded_Size_L1 k (acc : Int) l (l.length : Int) (i : Int)) ((acc + szsR ((l.drop i).map conv) : Nat) : Int)
  | 0, i, acc, hi, ha, hl => by
    refine Evt.succ ?_
    simp only [coded_Size_L1]
    rw [List.drop_of_length_le (by omega)]
    exact Evt.f (by rw [decide_eq_false_iff_not]; omega) (Evt.eq (by simp [szsR]))
  | n + 1, i, acc, hi, ha, hl => by
    have h1 : i < l.length := by omega
    rw [List.drop_eq_getElem_cons h1, List.map_cons, szsR] at ha ⊢
    refine Evt.succ ?_
    simp only [coded_Size_L1]
    refine Evt.t (by rw [decide_eq_true_eq]; omega) (Evt.at (at_nat h1) (Evt.bind (ih _ (List.getElem_mem h1)) ?_))
    rw [iw (by omega), wrap64 (by omega), show (acc : Int) + ((szR (conv l[i]) : Nat) : Int) = ((acc + szR (conv l[i]) : Nat) : Int) by omega, show acc + (szR (conv l[i]) + szsR ((l.drop (i + 1)).map conv)) = (acc + szR (conv l[i])) + szsR ((l.drop (i + 1)).map conv) by omega]
    exact size_L l ih n (i + 1) _ (by omega) (by omega) hl
theorem size_ev (x : C17) : szR (conv x) ≤ 1000000000 → Evt (fun k => coded_Size k x) ((szR (conv x) : Nat) : Int) := by
  induction x using C17.ind with
  | h x ih =>
    intro hz
    rw [szR_eq, conv_L] at hz ⊢
    have hl := szsR_map_len x.L
    refine Evt.succ ?_
    simp only [coded_Size]
    have := size_L x.L (fun y hy => ih y hy (by have := szsR_mem (List.mem_map_of_mem (f := conv) hy); omega)) x.L.length 0 1 (by omega) (by rw [List.drop_zero]; omega) (by omega)
    rw [List.drop_zero] at this
    exact this
def goodR (x : R17) : Bool := decide (szR x ≤ 20000) && (decide (depR x ≤ 8000) && formR x)
theorem Good_ev (x : C17) (hw : wok x) (hok : x.ok) (hz : szR (conv x) ≤ 1000000000) : Evt (fun k => coded_Good k x) (goodR (conv x)) := by
  refine Evt.succ ?_
  simp only [coded_Good]
  refine Evt.bind (size_ev x hz) ?_
  unfold goodR
  by_cases h : szR (conv x) ≤ 20000
  · refine Evt.t (by rw [decide_eq_true_eq]; omega) (Evt.bind (good_ev x 8000 (by omega) (by omega) hw hok hz) (Evt.eq ?_))
    rw [show decide (szR (conv x) ≤ 20000) = true by simpa using h, Bool.true_and]
    congr 1
    rw [Bool.eq_iff_iff]; simp only [decide_eq_true_eq]; omega
  · refine Evt.f (by rw [decide_eq_false_iff_not]; omega) (Evt.eq ?_)
    rw [show decide (szR (conv x) ≤ 20000) = false by simpa using h, Bool.false_and]
end Go.Am
