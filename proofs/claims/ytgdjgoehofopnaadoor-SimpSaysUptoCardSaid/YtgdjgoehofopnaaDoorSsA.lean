/- SimpSays, plain law: trimming, sets, the reference's words. -/
import Derived.Test.YtgdjgoehofopnaaDoorSsF6
set_option linter.unusedSimpArgs false
set_option linter.unusedVariables false
set_option maxRecDepth 20000
namespace Go.Am
open Go

/-! Trimming. -/
def is01 (b : UInt8) : Bool := b == 48 || b == 49
def set01 : Arr Bool 256 := ((Arr.rep 256 false).set 48 true).set 49 true
theorem set01_gd (b : UInt8) : set01.gd (b.toNat : Int) false = is01 b := by
  have h : ∀ n : Fin 256, set01.gd ((n.val : Nat) : Int) false = (n.val == 48 || n.val == 49) := by decide
  have hb : b.toNat < 256 := b.toNat_lt
  have := h ⟨b.toNat, hb⟩
  rw [this]
  unfold is01
  congr 1
  · rw [Bool.eq_iff_iff]; simp [← UInt8.toNat_inj]
  · rw [Bool.eq_iff_iff]; simp [← UInt8.toNat_inj]
theorem makeSet_ev : Evt (fun k => strings_makeASCIISet k [48, 49]) (set01, true) := ⟨6, fun k hk => by
  obtain ⟨m, rfl⟩ : ∃ m, k = m + 6 := ⟨k - 6, by omega⟩
  show strings_makeASCIISet (m + 6) [48, 49] = some (set01, true)
  kernel_rfl⟩
theorem contains_ev (b : UInt8) : Evt (fun k => strings_asciiSet_contains k set01 (b.toNat : Int)) (is01 b) := by
  refine Evt.succ ?_
  simp only [strings_asciiSet_contains]
  have hb : b.toNat < 256 := b.toNat_lt
  exact Evt.need (by omega) (Evt.eq (set01_gd b))
theorem trimL_ev : ∀ (s : List UInt8), s.length ≤ 140737488351232 → ∃ u, Evt (fun k => strings_trimLeftASCII_L1 k set01 s) u ∧ (u == []) = s.all is01
  | [], _ => ⟨[], by
      refine Evt.succ ?_
      simp only [strings_trimLeftASCII_L1]
      exact Evt.f (by simp) Evt.pure, rfl⟩
  | b :: s, h => by
    cases hb : is01 b with
    | false =>
      refine ⟨b :: s, ?_, by simp [hb]⟩
      refine Evt.succ ?_
      simp only [strings_trimLeftASCII_L1]
      refine Evt.t (by simp) (Evt.at (y := b) rfl (Evt.bind (contains_ev b) ?_))
      exact Evt.t (by rw [hb]; rfl) Evt.pure
    | true =>
      obtain ⟨u, h1, h2⟩ := trimL_ev s (by simp at h; omega)
      refine ⟨u, ?_, by rw [h2]; simp [hb]⟩
      refine Evt.succ ?_
      simp only [strings_trimLeftASCII_L1]
      refine Evt.t (by simp) (Evt.at (y := b) rfl (Evt.bind (contains_ev b) ?_))
      refine Evt.f (by rw [hb]; rfl) (Evt.need (by simp; omega) ?_)
      exact h1
theorem trimR_ev : ∀ (n : Nat) (s : List UInt8), s.length = n → n ≤ 140737488351232 → ∃ u, Evt (fun k => strings_trimRightASCII_L1 k set01 s) u ∧ u.all is01 = s.all is01 ∧ u.length ≤ n
  | 0, s, hs, _ => by
    have : s = [] := List.length_eq_zero_iff.1 hs
    subst this
    refine ⟨[], ?_, rfl, Nat.le_refl _⟩
    refine Evt.succ ?_
    simp only [strings_trimRightASCII_L1]
    exact Evt.f (by simp) Evt.pure
  | n + 1, s, hs, hn => by
    obtain ⟨l, b, rfl⟩ : ∃ l b, s = l ++ [b] := ⟨s.dropLast, s.getLast (by intro h; rw [h] at hs; cases hs), (List.dropLast_concat_getLast _).symm⟩
    have hl : l.length = n := by simpa using hs
    have hw : IntKind.i64.wrap (((l ++ [b]).length : Int) - 1) = (n : Int) := by rw [hs, wrap64 (by omega)]; omega
    have hat : at_ (l ++ [b]) (n : Int) = some b := by
      rw [at_nat (by rw [hs]; omega)]
      simp [← hl]
    cases hb : is01 b with
    | false =>
      refine ⟨l ++ [b], ?_, rfl, by omega⟩
      refine Evt.succ ?_
      simp only [strings_trimRightASCII_L1, hw]
      refine Evt.t (by rw [hs]; simp) (Evt.at hat (Evt.bind (contains_ev b) ?_))
      exact Evt.t (by rw [hb]; rfl) Evt.pure
    | true =>
      obtain ⟨u, h1, h2, h3⟩ := trimR_ev n l hl (by omega)
      refine ⟨u, ?_, by rw [h2]; simp [hb], by omega⟩
      refine Evt.succ ?_
      simp only [strings_trimRightASCII_L1, hw]
      refine Evt.t (by rw [hs]; simp) (Evt.at hat (Evt.bind (contains_ev b) ?_))
      refine Evt.f (by rw [hb]; rfl) (Evt.need (by rw [hs]; omega) ?_)
      rw [Int.toNat_natCast, List.take_append_of_le_length (by omega), List.take_of_length_le (by omega)]
      exact h1
theorem trim_ev (s : List UInt8) (h : s.length ≤ 140737488351232) : ∃ u, Evt (fun k => strings_Trim k s [48, 49]) u ∧ (u == []) = s.all is01 := by
  obtain ⟨r, r1, r2, r3⟩ := trimR_ev _ s rfl h
  obtain ⟨u, u1, u2⟩ := trimL_ev r (by omega)
  by_cases hs : s = []
  · subst hs
    refine ⟨[], ?_, rfl⟩
    refine Evt.succ ?_
    simp only [strings_Trim]
    exact Evt.t rfl Evt.pure
  · refine ⟨u, ?_, by rw [u2, r2]⟩
    have h0 : (s == []) = false := by simp [hs]
    refine Evt.succ ?_
    simp only [strings_Trim, h0]
    refine Evt.f rfl (Evt.f rfl ?_)
    refine Evt.succ ?_
    simp only [strings_Trim_J1]
    refine Evt.f rfl (Evt.bind makeSet_ev (Evt.t rfl ?_))
    refine Evt.bind (r := r) ?_ (Evt.bind (r := u) ?_ Evt.pure)
    · refine Evt.succ ?_
      simp only [strings_trimRightASCII]
      exact r1
    · refine Evt.succ ?_
      simp only [strings_trimLeftASCII]
      exact u1
end Go.Am
