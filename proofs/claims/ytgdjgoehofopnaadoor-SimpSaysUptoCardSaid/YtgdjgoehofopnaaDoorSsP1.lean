/- SimpSays, plain law: the program's words and the reference's, side by side. -/
import Derived.Test.YtgdjgoehofopnaaDoorSsB
set_option linter.unusedSimpArgs false
set_option linter.unusedVariables false
set_option maxRecDepth 20000
namespace Go.Am
open Go

def hasB (s : Arr Int 4) (i : Nat) : Bool := (s.l.getD (i / 64) 0).toNat.testBit (i % 64)
def convS (s : Arr Int 4) : Arr Bool 256 := ⟨(List.range 256).map (hasB s), by rw [List.length_map, List.length_range]⟩
mutual
def conv : C17 → R17
  | ⟨k, b, s, l⟩ => ⟨k, b, convS s, convs l⟩
termination_by structural x => x
def convs : List C17 → List R17
  | [] => []
  | x :: xs => conv x :: convs xs
termination_by structural x => x
end
theorem convs_eq : ∀ l, convs l = l.map conv
  | [] => rfl
  | x :: xs => by rw [convs, convs_eq xs]; rfl
theorem conv_eq (x : C17) : conv x = ⟨x.Kind, x.Bits, convS x.Set, x.L.map conv⟩ := by cases x; rw [conv, convs_eq]
theorem conv_Kind (x : C17) : (conv x).Kind = x.Kind := by rw [conv_eq]
theorem conv_Bits (x : C17) : (conv x).Bits = x.Bits := by rw [conv_eq]
theorem conv_L (x : C17) : (conv x).L = x.L.map conv := by rw [conv_eq]

def wokS (s : Arr Int 4) : Prop := ∀ z ∈ s.l, 0 ≤ z ∧ z ≤ 18446744073709551615
mutual
def wok : C17 → Prop
  | ⟨_, _, s, l⟩ => wokS s ∧ woks l
termination_by structural x => x
def woks : List C17 → Prop
  | [] => True
  | x :: xs => wok x ∧ woks xs
termination_by structural x => x
end
theorem woks_iff : ∀ {l}, woks l ↔ ∀ y ∈ l, wok y
  | [] => by simp [woks]
  | x :: xs => by simp [woks, woks_iff (l := xs)]
theorem wok_iff (x : C17) : wok x ↔ wokS x.Set ∧ ∀ y ∈ x.L, wok y := by cases x; rw [wok, woks_iff]
theorem wok_of_ok (x : C17) (h : x.ok) : wok x := by
  induction x using C17.ind with
  | h x ih =>
    rw [T_coded_Coded.ok_iff] at h
    rw [wok_iff]
    exact ⟨fun z hz => wf_u64 (h.2.2.1 z hz), fun y hy => ih y hy (h.2.2.2 y hy)⟩

/-- A word's bit, as the code asks for it. -/
theorem bit_eq (n k : Nat) (hn : n < 2 ^ 64) (hk : k < 64) : (andI .u64 (shrI .u64 (n : Int) (k : Int)) 1 == 1) = n.testBit k := by
  unfold andI shrI
  have h1 : ((n : Int).fdiv (2 ^ (min (k : Int).toNat (IntKind.bits .u64)))) = ((n / 2 ^ k : Nat) : Int) := by
    show ((n : Int).fdiv (2 ^ (min (k : Int).toNat 64))) = _
    rw [Int.toNat_natCast, Nat.min_eq_left (by omega), Int.fdiv_eq_ediv_of_nonneg _ (by exact Int.le_of_lt (Int.pow_pos (by omega)))]
    rw [Int.natCast_ediv, Int.natCast_pow]
    rfl
  rw [h1]
  have hlt : n / 2 ^ k < 2 ^ 64 := Nat.lt_of_le_of_lt (Nat.div_le_self _ _) hn
  have h2 : (BitVec.ofInt 64 ((n / 2 ^ k : Nat) : Int) &&& BitVec.ofInt 64 1).toNat = n / 2 ^ k % 2 := by
    rw [BitVec.toNat_and]
    have e1 : (BitVec.ofInt 64 ((n / 2 ^ k : Nat) : Int)).toNat = n / 2 ^ k := by
      rw [BitVec.ofInt_natCast, BitVec.toNat_ofNat]
      exact Nat.mod_eq_of_lt hlt
    have e2 : (BitVec.ofInt 64 1).toNat = 1 := by decide
    rw [e1, e2, Nat.and_one_is_mod]
  have h3 : Go.Am.bits .u64 (fun (x y : BitVec (IntKind.bits .u64)) => x &&& y) ((n / 2 ^ k : Nat) : Int) 1 = ((n / 2 ^ k % 2 : Nat) : Int) := by
    unfold Go.Am.bits
    have : ((BitVec.ofInt (IntKind.bits .u64) ((n / 2 ^ k : Nat) : Int) &&& BitVec.ofInt (IntKind.bits .u64) 1).toNat : Int) = ((n / 2 ^ k % 2 : Nat) : Int) := congrArg _ h2
    show IntKind.wrap .u64 ((BitVec.ofInt (IntKind.bits .u64) ((n / 2 ^ k : Nat) : Int) &&& BitVec.ofInt (IntKind.bits .u64) 1).toNat : Int) = _
    rw [this]
    have : n / 2 ^ k % 2 < 2 := Nat.mod_lt _ (by omega)
    exact wrapU64 (by omega)
  rw [h3, Nat.testBit_eq_decide_div_mod_eq]
  have : n / 2 ^ k % 2 < 2 := Nat.mod_lt _ (by omega)
  rcases Nat.lt_or_ge (n / 2 ^ k % 2) 1 with h | h
  · have : n / 2 ^ k % 2 = 0 := by omega
    rw [this]; rfl
  · have : n / 2 ^ k % 2 = 1 := by omega
    rw [this]; rfl
theorem getD_ok {s : Arr Int 4} (h : wokS s) (j : Nat) : 0 ≤ s.l.getD j 0 ∧ s.l.getD j 0 ≤ 18446744073709551615 := by
  rw [List.getD_eq_getElem?_getD]
  cases hj : s.l[j]? with
  | none => simp
  | some z => exact h z (List.mem_of_getElem? hj)

theorem from_L {s : Arr Int 4} (hs : wokS s) : ∀ (n i : Nat) (v2 v3 : Arr Bool 256), i + n = 256 → v3.l = (List.range i).map (hasB s) ++ List.replicate n false → Evt (fun k => ref1_From_L1 k s v2 v3 (i : Int)) (convS s)
  | 0, i, v2, v3, hi, hv => by
    have : i = 256 := by omega
    subst this
    refine Evt.succ ?_
    simp only [ref1_From_L1]
    refine Evt.f (by decide) (Evt.eq ?_)
    cases v3
    simp only [List.replicate_zero, List.append_nil] at hv
    subst hv
    rfl
  | n + 1, i, v2, v3, hi, hv => by
    refine Evt.succ ?_
    simp only [ref1_From_L1]
    have q1 : (i : Int).tdiv 64 = ((i / 64 : Nat) : Int) := by rw [Int.tdiv_eq_ediv_of_nonneg (Int.natCast_nonneg i)]; rfl
    have q2 : (i : Int).tmod 64 = ((i % 64 : Nat) : Int) := by rw [Int.tmod_eq_emod_of_nonneg (by omega)]; omega
    have q3 : IntKind.i64.wrap ((i / 64 : Nat) : Int) = ((i / 64 : Nat) : Int) := wrap64 (by omega)
    have q4 : IntKind.u64.wrap ((i % 64 : Nat) : Int) = ((i % 64 : Nat) : Int) := wrapU64 (by omega)
    have q5 : IntKind.i64.wrap ((i : Int) + 1) = ((i + 1 : Nat) : Int) := by rw [wrap64 (by omega)]; rfl
    rw [q1, q2, q3, q4, q5]
    refine Evt.t (by rw [decide_eq_true_eq]; omega) (Evt.need (by omega) (Evt.need (by omega) (Evt.need (by omega) ?_)))
    refine from_L hs n (i + 1) v2 _ (by omega) ?_
    have hb : (andI .u64 (shrI .u64 (s.gd ((i / 64 : Nat) : Int) 0) ((i % 64 : Nat) : Int)) 1 == 1) = hasB s i := by
      unfold Arr.gd hasB
      rw [Int.toNat_natCast]
      have hw := getD_ok hs (i / 64)
      have e : s.l.getD (i / 64) 0 = ((s.l.getD (i / 64) 0).toNat : Int) := by omega
      rw [e, bit_eq _ _ (by omega) (by omega), Int.toNat_natCast]
    rw [hb]
    show v3.l.set (i : Int).toNat (hasB s i) = _
    rw [hv, Int.toNat_natCast, List.set_append, if_neg (by rw [List.length_map, List.length_range]; omega), List.length_map, List.length_range, Nat.sub_self, List.replicate_succ, List.set_cons_zero, List.range_succ, List.map_append, List.append_assoc]
    rfl
theorem own_ev {s : Arr Int 4} (hs : wokS s) : Evt (fun k => law18_own k s) (convS s) := by
  refine Evt.succ ?_
  simp only [law18_own]
  refine Evt.bind (r := convS s) ?_ Evt.pure
  refine Evt.succ ?_
  simp only [ref1_From]
  exact from_L hs 256 0 _ _ rfl rfl

theorem codedOf_L (x : C17) (hx : x.L.length ≤ 1000000000) (ih : ∀ y ∈ x.L, Evt (fun k => law18_codedOf k y) (conv y)) : ∀ (n i : Nat) (v2 : R17) (acc : List R17) (b : List UInt8) (s : Arr Bool 256) (kd : Int), i + n = x.L.length → acc = (x.L.take i).map conv →
    Evt (fun k => law18_codedOf_L1 k x v2 ⟨kd, b, s, acc⟩ (i : Int)) ⟨kd, b, s, x.L.map conv⟩
  | 0, i, v2, acc, b, s, kd, hi, ha => by
    refine Evt.succ ?_
    simp only [law18_codedOf_L1]
    refine Evt.f (by rw [decide_eq_false_iff_not]; omega) (Evt.eq ?_)
    rw [ha, List.take_of_length_le (by omega)]
  | n + 1, i, v2, acc, b, s, kd, hi, ha => by
    have hlt : i < x.L.length := by omega
    have hacc : acc.length = i := by rw [ha, List.length_map, List.length_take]; omega
    refine Evt.succ ?_
    simp only [law18_codedOf_L1]
    rw [show IntKind.i64.wrap ((i : Int) + 1) = ((i + 1 : Nat) : Int) by rw [wrap64 (by omega)]; rfl]
    refine Evt.t (by rw [decide_eq_true_eq]; omega) (Evt.at (at_nat hlt) (Evt.bind (ih _ (List.getElem_mem hlt)) (Evt.need (by rw [hacc]; simp only [List.length_singleton]; omega) ?_)))
    refine codedOf_L x hx ih n (i + 1) v2 _ b s kd (by omega) ?_
    rw [ha, List.take_succ_eq_append_getElem hlt, List.map_append]
    rfl
theorem szsR_map_len (l : List C17) : l.length ≤ szsR (l.map conv) := by have := szsR_len (l.map conv); rwa [List.length_map] at this
theorem codedOf_ev (x : C17) : wok x → szR (conv x) ≤ 1000000000 → Evt (fun k => law18_codedOf k x) (conv x) := by
  induction x using C17.ind with
  | h x ih =>
    intro hw hz
    rw [wok_iff] at hw
    rw [szR_eq, conv_L] at hz
    have hl := szsR_map_len x.L
    refine Evt.succ ?_
    simp only [law18_codedOf]
    refine Evt.bind (own_ev hw.1) ?_
    rw [conv_eq]
    exact codedOf_L x (by omega) (fun y hy => ih y hy (hw.2 y hy) (by
      have := szsR_mem (List.mem_map_of_mem (f := conv) hy); omega)) x.L.length 0 _ [] _ _ _ (by omega) rfl

/-! Alike in all but choices. -/
theorem convS_inj {s t : Arr Int 4} (hs : wokS s) (ht : wokS t) : ((convS s).l == (convS t).l) = (s == t) := by
  rw [Bool.eq_iff_iff]
  show _ ↔ (s.l == t.l) = true
  rw [beq_iff_eq, beq_iff_eq]
  constructor
  · intro h
    have hb : ∀ i, i < 256 → hasB s i = hasB t i := by
      intro i hi
      have h1 : (convS s).l[i]? = (convS t).l[i]? := by rw [h]
      simp only [convS, List.getElem?_map, List.getElem?_range hi, Option.map_some, Option.some.injEq] at h1
      exact h1
    have hw : ∀ j, j < 4 → s.l.getD j 0 = t.l.getD j 0 := by
      intro j hj
      have a := getD_ok hs j
      have b := getD_ok ht j
      have : (s.l.getD j 0).toNat = (t.l.getD j 0).toNat := by
        refine Nat.eq_of_testBit_eq fun i => ?_
        rcases Nat.lt_or_ge i 64 with hi | hi
        · have := hb (j * 64 + i) (by omega)
          unfold hasB at this
          rw [show (j * 64 + i) / 64 = j by omega, show (j * 64 + i) % 64 = i by omega] at this
          exact this
        · have p : 2 ^ 64 ≤ 2 ^ i := Nat.pow_le_pow_right (by omega) hi
          rw [Nat.testBit_lt_two_pow (by omega), Nat.testBit_lt_two_pow (by omega)]
      omega
    refine List.ext_getElem? fun j => ?_
    rcases Nat.lt_or_ge j 4 with hj | hj
    · have h1 : j < s.l.length := by rw [s.h]; exact hj
      have h2 : j < t.l.length := by rw [t.h]; exact hj
      have := hw j hj
      rw [List.getD_eq_getElem?_getD, List.getD_eq_getElem?_getD, List.getElem?_eq_getElem h1, List.getElem?_eq_getElem h2] at this
      rw [List.getElem?_eq_getElem h1, List.getElem?_eq_getElem h2]
      simpa using this
    · rw [List.getElem?_eq_none (by rw [s.h]; exact hj), List.getElem?_eq_none (by rw [t.h]; exact hj)]
  · intro h
    have : s = t := by cases s; cases t; simp at h; subst h; rfl
    rw [this]
/-- All pairs. -/
def eqs {α β : Type} (Q : α → β → Bool) : List α → List β → Bool
  | [], [] => true
  | x :: xs, y :: ys => Q x y && eqs Q xs ys
  | [], _ :: _ => false
  | _ :: _, [] => false
theorem eqs_len {α β : Type} {Q : α → β → Bool} : ∀ {a : List α} {b : List β}, a.length ≠ b.length → eqs Q a b = false
  | [], [], h => absurd rfl h
  | [], _ :: _, _ => rfl
  | _ :: _, [], _ => rfl
  | x :: a, y :: b, h => by rw [eqs, eqs_len (by simpa using h), Bool.and_false]
theorem equal_L {a b : List C17} {Q : C17 → C17 → Bool} (hab : a.length = b.length) (ha : a.length ≤ 1000000000) : ∀ (n i : Nat) (p : Nat → C17 → C17 → Option Bool), (∀ x ∈ a, ∀ y ∈ b, Evt (fun k => p k x y) (Q x y)) → i + n = a.length →
    Evt (fun k => slices_EqualFunc_Lcoded_Coded_Lcoded_Coded_coded_Coded_coded_Coded_L1 k (p k) b a (a.length : Int) (i : Int)) (eqs Q (a.drop i) (b.drop i))
  | 0, i, p, hp, hi => by
    refine Evt.succ ?_
    simp only [slices_EqualFunc_Lcoded_Coded_Lcoded_Coded_coded_Coded_coded_Coded_L1]
    refine Evt.f (by rw [decide_eq_false_iff_not]; omega) (Evt.eq ?_)
    rw [List.drop_of_length_le (by omega), List.drop_of_length_le (by omega)]; rfl
  | n + 1, i, p, hp, hi => by
    have h1 : i < a.length := by omega
    have h2 : i < b.length := by omega
    refine Evt.succ ?_
    simp only [slices_EqualFunc_Lcoded_Coded_Lcoded_Coded_coded_Coded_coded_Coded_L1]
    rw [show IntKind.i64.wrap ((i : Int) + 1) = ((i + 1 : Nat) : Int) by rw [wrap64 (by omega)]; rfl, List.drop_eq_getElem_cons h1, List.drop_eq_getElem_cons h2, eqs]
    refine Evt.t (by rw [decide_eq_true_eq]; omega) (Evt.at (at_nat h1) (Evt.at (at_nat h2) (Evt.bind (Evt.shift (hp _ (List.getElem_mem h1) _ (List.getElem_mem h2))) ?_)))
    cases hq : Q a[i] b[i] with
    | false => exact Evt.t rfl Evt.pure
    | true =>
      refine Evt.f rfl ?_
      rw [Bool.true_and]
      exact equal_L hab ha n (i + 1) (fun k => p (k + 1)) (fun x hx y hy => Evt.shift (hp x hx y hy)) (by omega)
theorem equal_ev {a b : List C17} {Q : C17 → C17 → Bool} (ha : a.length ≤ 1000000000) (p : Nat → C17 → C17 → Option Bool) (hp : ∀ x ∈ a, ∀ y ∈ b, Evt (fun k => p k x y) (Q x y)) :
    Evt (fun k => slices_EqualFunc_Lcoded_Coded_Lcoded_Coded_coded_Coded_coded_Coded k a b (p k)) (eqs Q a b) := by
  refine Evt.succ ?_
  simp only [slices_EqualFunc_Lcoded_Coded_Lcoded_Coded_coded_Coded_coded_Coded]
  by_cases h : a.length = b.length
  · refine Evt.f (by simp [h]) ?_
    exact equal_L h ha a.length 0 (fun k => p (k + 1)) (fun x hx y hy => Evt.shift (hp x hx y hy)) (by omega)
  · refine Evt.t (by simp; omega) (Evt.eq ?_)
    rw [eqs_len h]
theorem same_ev (x : C17) : ∀ y, wok x → wok y → szR (conv x) ≤ 1000000000 → Evt (fun k => coded_Same k x y) (sameR (conv x) (conv y)) := by
  induction x using C17.ind with
  | h x ih =>
    intro y hx hy hz
    rw [wok_iff] at hx hy
    rw [szR_eq, conv_L] at hz
    have hl := szsR_map_len x.L
    refine Evt.succ ?_
    simp only [coded_Same]
    have hss : samesR (x.L.map conv) (y.L.map conv) = eqs (fun a b => sameR (conv a) (conv b)) x.L y.L := by
      generalize x.L = a
      generalize y.L = b
      induction a generalizing b with
      | nil => cases b <;> rfl
      | cons z a iha => cases b with
        | nil => rfl
        | cons w b => simp only [List.map_cons, samesR, eqs, iha]
    rw [sameR_eq, conv_Kind, conv_Kind, conv_L, conv_L, hss]
    rw [show (conv x).Set.l = (convS x.Set).l by rw [conv_eq], show (conv y).Set.l = (convS y.Set).l by rw [conv_eq], convS_inj hx.1 hy.1]
    cases hc : (x.Kind == y.Kind) && (x.Set == y.Set) with
    | false =>
      refine Evt.f rfl (Evt.eq ?_)
      rw [← Bool.and_assoc, hc, Bool.false_and]
    | true =>
      refine Evt.t rfl ?_
      rw [← Bool.and_assoc, hc, Bool.true_and]
      refine Evt.bind (equal_ev (by omega) (fun k a0 a1 => coded_Same k a0 a1) fun a ha b hb => ih a ha b (hx.2 a ha) (hy.2 b hb) ?_) Evt.pure
      have := szsR_mem (List.mem_map_of_mem (f := conv) ha); omega
end Go.Am
