/- SimpSays, plain law: the law answers true wherever what came in is of bulk at most a bound. -/
import Derived.Test.YtgdjgoehofopnaaDoorSsP6
set_option linter.unusedSimpArgs false
set_option linter.unusedVariables false
set_option maxRecDepth 20000
namespace Go.Am
open Go

theorem awake_ev : Evt (fun k => law18_awake k) true := ⟨60, fun k hk => by
  obtain ⟨m, rfl⟩ : ∃ m, k = m + 60 := ⟨k - 60, by omega⟩
  show law18_awake (m + 60) = some true
  kernel_rfl⟩

theorem says_L3 (x : C17) (b : Bool) (hb : Evt (fun k => (simp_Of k x).bind fun y104 => (law18_codedOf k y104).bind fun y105 => (law18_codedOf k x).bind fun y107 => (ref17_Simp k y107).bind fun y108 => (ref17_Alike k y105 y108).bind fun y109 => some y109) b)
    (c : List C17) (hc : c.length ≤ 1000000000) (hw : ∀ y ∈ c, wok y) (hz : ∀ y ∈ c, szR (conv y) ≤ 1000000000) : ∀ (n i : Nat), i + n = c.length → Evt (fun k => law18_SimpSays_L3 k x c (c.map conv) (i : Int)) b
  | 0, i, hi => by
    refine Evt.succ ?_
    simp only [law18_SimpSays_L3]
    exact Evt.f (by rw [decide_eq_false_iff_not]; omega) hb
  | n + 1, i, hi => by
    have h1 : i < c.length := by omega
    have h2 : at_ (c.map conv) (i : Int) = some (conv c[i]) := by rw [at_nat (by rw [List.length_map]; exact h1), List.getElem_map]
    refine Evt.succ ?_
    simp only [law18_SimpSays_L3]
    refine Evt.t (by rw [decide_eq_true_eq]; omega) (Evt.at (at_nat h1) (Evt.bind (codedOf_ev _ (hw _ (List.getElem_mem h1)) (hz _ (List.getElem_mem h1))) (Evt.at h2 (Evt.bind (alike_ev _ (hz _ (List.getElem_mem h1))) (Evt.f rfl ?_)))))
    rw [iw (by omega)]
    exact says_L3 x b hb c hc hw hz n (i + 1) (by omega)
theorem says_L2 (x : C17) (b : Bool) (c : List C17) (h3 : Evt (fun k => law18_SimpSays_L3 k x c (c.map conv) 0) b) (a : List C17) (hc : a.length ≤ 1000000000) (hw : ∀ y ∈ a, wok y) (hz : ∀ y ∈ a, szR (conv y) ≤ 1000000000) : ∀ (n i : Nat), i + n = a.length → Evt (fun k => law18_SimpSays_L2 k x a (a.map conv) c (c.map conv) (i : Int)) b
  | 0, i, hi => by
    refine Evt.succ ?_
    simp only [law18_SimpSays_L2]
    exact Evt.f (by rw [decide_eq_false_iff_not]; omega) h3
  | n + 1, i, hi => by
    have h1 : i < a.length := by omega
    have h2 : at_ (a.map conv) (i : Int) = some (conv a[i]) := by rw [at_nat (by rw [List.length_map]; exact h1), List.getElem_map]
    refine Evt.succ ?_
    simp only [law18_SimpSays_L2]
    refine Evt.t (by rw [decide_eq_true_eq]; omega) (Evt.at (at_nat h1) (Evt.bind (codedOf_ev _ (hw _ (List.getElem_mem h1)) (hz _ (List.getElem_mem h1))) (Evt.at h2 (Evt.bind (alike_ev _ (hz _ (List.getElem_mem h1))) (Evt.f rfl ?_)))))
    rw [iw (by omega)]
    exact says_L2 x b c h3 a hc hw hz n (i + 1) (by omega)

theorem says_end (x : C17) (hw : wok x) (hok : x.ok) (hz : szR (conv x) ≤ 1000000000) (hp : pbR (conv x) ≤ 100000000000000) : Evt (fun k => (simp_Of k x).bind fun y104 => (law18_codedOf k y104).bind fun y105 => (law18_codedOf k x).bind fun y107 => (ref17_Simp k y107).bind fun y108 => (ref17_Alike k y105 y108).bind fun y109 => some y109) true := by
  have hr : conv (if goodR (conv x) then simpC x else x) = (if goodR (conv x) then simpR (conv x) else conv x) := by
    split
    · exact conv_simp x
    · rfl
  have hz2 : szR (if goodR (conv x) then simpR (conv x) else conv x) ≤ 1000000000 := by
    have := szR_simp (conv x)
    split <;> omega
  have hw2 : wok (if goodR (conv x) then simpC x else x) := by
    split
    · exact wok_simp x hw
    · exact hw
  refine Evt.bind (simpOf_ev x hw hok hz hp) (Evt.bind (codedOf_ev _ hw2 (by rw [hr]; exact hz2)) (Evt.bind (codedOf_ev x hw hz) (Evt.bind (rSimp_ev (conv x) hz hp) ?_)))
  rw [hr]
  exact Evt.bind (alike_ev _ hz2) Evt.pure

theorem says_L1 (x : C17) (hw : wok x) (hok : x.ok) (hz : szR (conv x) ≤ 1000000000) (hp : pbR (conv x) ≤ 100000000000000) (l : List C17) (hlw : ∀ y ∈ l, wok y) (hlok : ∀ y ∈ l, y.ok) (hlz : szsR (l.map conv) ≤ 1000000000) (hlp : pbsR (l.map conv) ≤ 100000000000000) :
    ∀ (n i : Nat) (acc : List R17), i + n = l.length → acc = (l.take i).map conv → Evt (fun k => law18_SimpSays_L1 k l x acc (i : Int)) true
  | 0, i, acc, hi, ha => by
    have hi' : i = l.length := by omega
    subst hi'
    rw [List.take_length] at ha
    subst ha
    have hlen := szsR_map_len l
    have hfz : szsR ((flatC l).map conv) ≤ 1000000000 := by rw [conv_flat]; have := szsR_flat (l.map conv); omega
    have hfl := szsR_map_len (flatC l)
    have hv : ∀ v ∈ l, ∀ y ∈ v.L, v.Kind = 4 → v.Bits.length + y.Bits.length ≤ 140737488351232 := by
      intro v hv y hy h4'
      have e1 := pbsR_mem (List.mem_map_of_mem (f := conv) hv)
      have e2 := pbR_eq (conv v)
      rw [conv_Kind, conv_Bits, if_neg (by omega), conv_L] at e2
      have e3 := pbsR_mem (List.mem_map_of_mem (f := conv) hy)
      have e4 := bits_le (conv y)
      rw [conv_Bits] at e4
      omega
    have hvR : ∀ v ∈ l.map conv, ∀ y ∈ v.L, v.Kind = 4 → v.Bits.length + y.Bits.length ≤ 140737488351232 := by
      intro v hv' y hy h4
      obtain ⟨v', hm, rfl⟩ := List.mem_map.1 hv'
      rw [conv_L] at hy
      obtain ⟨y', hy', rfl⟩ := List.mem_map.1 hy
      rw [conv_Kind] at h4
      rw [conv_Bits, conv_Bits]
      exact hv v' hm y' hy' h4
    have hzl : ∀ y ∈ l, szR (conv y) ≤ 1000000000 := fun y hy => by have := szsR_mem (List.mem_map_of_mem (f := conv) hy); omega
    have hzR : ∀ y ∈ l.map conv, szR y ≤ 1000000000 := fun y hy => by have := szsR_mem hy; omega
    have ho1 : ∀ y ∈ onceC [] l, wok y := fun y hy => by
      rcases mem_onceC hy with h | h
      · cases h
      · exact hlw y h
    have ho2 : ∀ y ∈ onceC [] l, szR (conv y) ≤ 1000000000 := fun y hy => by
      rcases mem_onceC hy with h | h
      · cases h
      · exact hzl y h
    have hol := once_len l []
    refine Evt.succ ?_
    simp only [law18_SimpSays_L1]
    refine Evt.f (by rw [decide_eq_false_iff_not]; omega) (Evt.bind (flat_ev l (by omega) hv (by omega)) (Evt.bind (rflat_ev (l.map conv) (by rw [List.length_map]; omega) hvR (by rw [← conv_flat, List.length_map]; omega)) (Evt.bind (once_ev l (by omega) hlw hzl) (Evt.bind (ronce_ev (l.map conv) (by rw [List.length_map]; omega) hzR) ?_))))
    rw [← conv_flat, show onceR [] (l.map conv) = (onceC [] l).map conv from (conv_once l []).symm, List.length_map, List.length_map]
    refine Evt.f (by simp) ?_
    refine says_L2 x true (onceC [] l) ?_ (flatC l) (by omega) (wok_flat hlw) (fun y hy => by have := szsR_mem (List.mem_map_of_mem (f := conv) hy); omega) (flatC l).length 0 (by omega)
    exact says_L3 x true (says_end x hw hok hz hp) (onceC [] l) (by simp only [List.length_nil] at hol; omega) ho1 ho2 (onceC [] l).length 0 (by omega)
  | n + 1, i, acc, hi, ha => by
    have h1 : i < l.length := by omega
    have hlen := szsR_map_len l
    have hmem := List.getElem_mem h1
    have hzi : szR (conv l[i]) ≤ 1000000000 := by have := szsR_mem (List.mem_map_of_mem (f := conv) hmem); omega
    have hacc : acc.length = i := by rw [ha, List.length_map, List.length_take]; omega
    obtain ⟨b, hb⟩ := vast_ev 20 l[i] (by omega) hzi
    have jt : Evt (fun k => law18_SimpSays_J1 k l x acc (i : Int) true) true := by
      refine Evt.succ ?_
      simp only [law18_SimpSays_J1]
      exact Evt.pure
    refine Evt.succ ?_
    simp only [law18_SimpSays_L1]
    refine Evt.t (by rw [decide_eq_true_eq]; omega) (Evt.at (at_nat h1) (Evt.bind hb ?_))
    cases b with
    | true => exact Evt.t rfl jt
    | false =>
      refine Evt.f rfl (Evt.at (at_nat h1) (Evt.bind (Good_ev _ (hlw _ hmem) (hlok _ hmem) hzi) ?_))
      cases goodR (conv l[i]) with
      | false => exact jt
      | true =>
        refine Evt.succ ?_
        simp only [law18_SimpSays_J1]
        refine Evt.f rfl (Evt.at (at_nat h1) (Evt.bind (codedOf_ev _ (hlw _ hmem) hzi) (Evt.need (by simp only [List.length_singleton]; omega) ?_)))
        rw [iw (by omega)]
        refine says_L1 x hw hok hz hp l hlw hlok hlz hlp n (i + 1) _ (by omega) ?_
        rw [ha, List.take_succ_eq_append_getElem h1, List.map_append]
        rfl
theorem says_ev (x : C17) (hok : x.ok) (hz : szR (conv x) ≤ 1000000000) (hp : pbR (conv x) ≤ 100000000000000) (l : List C17) (hlok : ∀ y ∈ l, y.ok) (hlz : szsR (l.map conv) ≤ 1000000000) (hlp : pbsR (l.map conv) ≤ 100000000000000) : Evt (fun k => law18_SimpSays k x l) true := by
  obtain ⟨b, hb⟩ := vast_ev 30 x (by omega) hz
  refine Evt.succ ?_
  simp only [law18_SimpSays]
  refine Evt.bind awake_ev (Evt.f rfl (Evt.bind hb ?_))
  cases hc : (b || (decide ((l.length : Int) > 12))) with
  | true => exact Evt.t rfl Evt.pure
  | false =>
    refine Evt.f rfl ?_
    exact says_L1 x (wok_of_ok x hok) hok hz hp l (fun y hy => wok_of_ok y (hlok y hy)) hlok hlz hlp l.length 0 [] (by omega) rfl

/-! Bulk. -/
theorem bulk_C (x : C17) : D.bulk x.enc = D.bulkL ([(.int .i64 x.Kind)] ++ ([(.str x.Bits)] ++ ((x.Set.l.map (D.int .u64)) ++ ([.list (x.L.map T_coded_Coded.enc)] ++ ([]))))) + 1 := by rw [T_coded_Coded.enc_eq]; rfl
theorem bulk_ge (x : C17) : x.Bits.length + D.bulkL (x.L.map T_coded_Coded.enc) + 1 ≤ D.bulk x.enc := by
  rw [bulk_C, bulkL_append, bulkL_append, bulkL_append]
  simp only [D.bulkL, D.bulk, bulkL_append]
  omega
theorem bulk_sz (x : C17) : szR (conv x) ≤ D.bulk x.enc ∧ pbR (conv x) ≤ D.bulk x.enc := by
  induction x using C17.ind with
  | h x ih =>
    have hb := bulk_ge x
    have : ∀ l : List C17, (∀ y ∈ l, szR (conv y) ≤ D.bulk y.enc ∧ pbR (conv y) ≤ D.bulk y.enc) → szsR (l.map conv) ≤ D.bulkL (l.map T_coded_Coded.enc) ∧ pbsR (l.map conv) ≤ D.bulkL (l.map T_coded_Coded.enc) ∧ pbtR (l.map conv) ≤ D.bulkL (l.map T_coded_Coded.enc) := by
      intro l
      induction l with
      | nil => intro _; exact ⟨Nat.le_refl _, Nat.le_refl _, Nat.le_refl _⟩
      | cons y l ihl =>
        intro h
        have h1 := h y (by simp)
        have h2 := ihl fun z hz => h z (by simp [hz])
        simp only [List.map_cons, szsR, pbsR, pbtR, D.bulkL]
        omega
    obtain ⟨a, b, c⟩ := this x.L ih
    rw [szR_eq, pbR_eq, conv_L, conv_Bits]
    refine ⟨by omega, ?_⟩
    split <;> omega
theorem bulks_sz : ∀ l : List C17, szsR (l.map conv) ≤ D.bulkL (l.map T_coded_Coded.enc) ∧ pbsR (l.map conv) ≤ D.bulkL (l.map T_coded_Coded.enc)
  | [] => ⟨Nat.le_refl _, Nat.le_refl _⟩
  | y :: l => by
    have h1 := bulk_sz y
    have h2 := bulks_sz l
    simp only [List.map_cons, szsR, pbsR, D.bulkL]
    omega
end Go.Am
