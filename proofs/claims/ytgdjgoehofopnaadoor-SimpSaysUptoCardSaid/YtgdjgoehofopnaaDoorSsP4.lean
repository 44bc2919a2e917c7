/- SimpSays, plain law: the program's simplification; the reference's words. -/
import Derived.Test.YtgdjgoehofopnaaDoorSsP3
set_option linter.unusedSimpArgs false
set_option linter.unusedVariables false
set_option maxRecDepth 20000
namespace Go.Am
open Go

def finC (x : C17) (ls : List C17) : C17 :=
  if x.Kind = 3 then (match ls with
    | [a, b] => if a.Kind = 0 ∨ b.Kind = 0 then zeroC else if a.Kind = 1 then fuseC (x.Bits ++ a.Bits) b else ⟨3, x.Bits, Arr.rep 4 0, [a, b]⟩
    | _ => x)
  else if x.Kind = 4 then (match onceC [] (flatC ls) with
    | [] => zeroC
    | [a] => fuseC x.Bits a
    | l => ⟨4, x.Bits, Arr.rep 4 0, l⟩)
  else x
theorem conv_fin (x : C17) (ls : List C17) : conv (finC x ls) = finR (conv x) (ls.map conv) := by
  unfold finC finR
  rw [conv_Kind, conv_Bits]
  split
  · match ls with
    | [] => rfl
    | [_] => rfl
    | _ :: _ :: _ :: _ => rfl
    | [a, b] =>
      simp only [List.map_cons, List.map_nil, conv_Kind, conv_Bits]
      split
      · exact conv_zero
      · split
        · exact conv_fuse _ _
        · rw [conv_eq, ← convS_zero]; rfl
  · split
    · rw [← conv_flat, show ([] : List R17) = ([] : List C17).map conv from rfl, ← conv_once]
      match onceC [] (flatC ls) with
      | [] => exact conv_zero
      | [a] => exact conv_fuse _ _
      | a :: b :: l => rw [conv_eq, ← convS_zero]; rfl
    · rfl
mutual
def simpC : C17 → C17
  | ⟨k, b, s, l⟩ => finC ⟨k, b, s, l⟩ (simpsC l)
termination_by structural x => x
def simpsC : List C17 → List C17
  | [] => []
  | x :: xs => simpC x :: simpsC xs
termination_by structural x => x
end
theorem simpsC_eq : ∀ l, simpsC l = l.map simpC
  | [] => rfl
  | x :: xs => by rw [simpsC, simpsC_eq xs]; rfl
theorem simpC_eq (x : C17) : simpC x = finC x (x.L.map simpC) := by cases x; rw [simpC, simpsC_eq]
theorem conv_simp (x : C17) : conv (simpC x) = simpR (conv x) := by
  induction x using C17.ind with
  | h x ih =>
    rw [simpC_eq, conv_fin, simpR_eq, conv_L, List.map_map, List.map_map]
    congr 1
    exact List.map_congr_left fun y hy => ih y hy
theorem wok_fin {x : C17} {ls : List C17} (hx : wok x) (hl : ∀ y ∈ ls, wok y) : wok (finC x ls) := by
  have hx' := (wok_iff x).1 hx
  have hz : wokS (Arr.rep 4 0) := ((wok_iff zeroC).1 wok_zero).1
  unfold finC
  split
  · split
    · rename_i a b
      split
      · exact wok_zero
      · split
        · exact wok_fuse (hl b (by simp))
        · rw [wok_iff]; exact ⟨hz, hl⟩
    · exact hx
  · split
    · have h1 : ∀ y ∈ onceC [] (flatC ls), wok y := fun y hy => by
        rcases mem_onceC hy with h | h
        · cases h
        · exact wok_flat hl y h
      split
      · exact wok_zero
      · rename_i a ho
        rw [ho] at h1
        exact wok_fuse (h1 a (by simp))
      · rw [wok_iff]; exact ⟨hz, h1⟩
    · exact hx
theorem wok_simp (x : C17) : wok x → wok (simpC x) := by
  induction x using C17.ind with
  | h x ih =>
    intro hx
    rw [simpC_eq]
    refine wok_fin hx fun y hy => ?_
    obtain ⟨z, hz, rfl⟩ := List.mem_map.1 hy
    exact ih z hz (((wok_iff x).1 hx).2 z hz)

/-- Two parts where two belong. -/
theorem two_of_form {x : R17} (h : formR x = true) (h3 : x.Kind = 3) : x.L.length = 2 := by
  rw [formR_eq, Bool.and_eq_true] at h
  have h := h.1
  unfold locR at h
  rw [Bool.and_eq_true, h3] at h
  by_cases hl : x.L.length = 2
  · exact hl
  · exfalso
    have : ((x.L.length : Int) != 2) = true := by simp; omega
    rw [this] at h
    simp at h

theorem set_step {α : Type} {l : List α} {i n : Nat} {z y : α} (h : l.length = i) : (l ++ List.replicate (n + 1) z).set i y = (l ++ [y]) ++ List.replicate n z := by
  rw [List.set_append, if_neg (by omega), h, Nat.sub_self, List.replicate_succ, List.set_cons_zero, List.append_assoc]; rfl

/-- What is made of the parts. -/
theorem simp_end (v1 v2 : C17) (t20 : List C17) (t21 : Int) (m : Nat) (ls : List C17) (t22 : Int) (ht : ¬ t22 < t21) (hk : v1.Kind = 3 ∨ v1.Kind = 4) (h2 : v1.Kind = 3 → ls.length = 2) (hw : ∀ y ∈ ls, wok y) (hz : szsR (ls.map conv) ≤ 1000000000)
    (hp : v1.Bits.length + (if v1.Kind = 3 then pbtR (ls.map conv) else pbsR (ls.map conv)) ≤ 100000000000000) : Evt (fun k => simp_of_L1 k v1 v2 t20 t21 t22 ls m) (finC v1 ls) := by
  have hlen := szsR_map_len ls
  refine Evt.succ ?_
  simp only [simp_of_L1]
  refine Evt.f (by rw [decide_eq_false_iff_not]; exact ht) ?_
  rcases hk with h3 | h4
  · refine Evt.t (by simp [h3]) ?_
    obtain ⟨a, b, rfl⟩ := len2 (h2 h3)
    rw [if_pos h3] at hp
    simp only [List.map_cons, List.map_nil, pbtR] at hp
    have pa := pbR_eq (conv a)
    have pb := pbR_eq (conv b)
    rw [conv_Bits] at pa pb
    refine Evt.at (y := a) rfl ?_
    have hfin : finC v1 [a, b] = if a.Kind = 0 ∨ b.Kind = 0 then zeroC else if a.Kind = 1 then fuseC (v1.Bits ++ a.Bits) b else ⟨3, v1.Bits, Arr.rep 4 0, [a, b]⟩ := by
      unfold finC; rw [if_pos h3]
    rw [hfin]
    have rest : (¬ (a.Kind = 0 ∨ b.Kind = 0)) → Evt (fun k => simp_of_J1 k v1 v2 false [a, b] m) (if a.Kind = 1 then fuseC (v1.Bits ++ a.Bits) b else ⟨3, v1.Bits, Arr.rep 4 0, [a, b]⟩) := by
      intro hn
      refine Evt.succ ?_
      simp only [simp_of_J1]
      refine Evt.f rfl (Evt.at (y := a) rfl ?_)
      by_cases ha : a.Kind = 1
      · rw [if_pos ha]
        refine Evt.t (by simp [ha]) (Evt.at (y := a) rfl (Evt.need (by omega) (Evt.at (y := b) rfl (Evt.bind (fuse_ev _ b (by rw [List.length_append]; omega)) Evt.pure))))
      · rw [if_neg ha]
        exact Evt.f (by simp [ha]) Evt.pure
    have zero : Evt (fun k => simp_of_J1 k v1 v2 true [a, b] m) zeroC := by
      refine Evt.succ ?_
      simp only [simp_of_J1]
      exact Evt.pure
    by_cases ha : a.Kind = 0
    · rw [if_pos (.inl ha)]
      exact Evt.t (by simp [ha]) zero
    · refine Evt.f (by simp [ha]) (Evt.at (y := b) rfl ?_)
      by_cases hb : b.Kind = 0
      · rw [if_pos (.inr hb), show (b.Kind == 0) = true by simp [hb]]
        exact zero
      · rw [if_neg (by simp [ha, hb]), show (b.Kind == 0) = false by simp [hb]]
        exact rest (by simp [ha, hb])
  · have h3 : v1.Kind ≠ 3 := by omega
    refine Evt.f (by simp [h3]) ?_
    rw [if_neg h3] at hp
    have hfin : finC v1 ls = (match onceC [] (flatC ls) with
      | [] => zeroC
      | [a] => fuseC v1.Bits a
      | l => ⟨4, v1.Bits, Arr.rep 4 0, l⟩) := by
      unfold finC; rw [if_neg h3, if_pos h4]
    rw [hfin]
    have hfz : szsR ((flatC ls).map conv) ≤ 1000000000 := by rw [conv_flat]; have := szsR_flat (ls.map conv); omega
    have hfl := szsR_map_len (flatC ls)
    have hv : ∀ v ∈ ls, ∀ y ∈ v.L, v.Kind = 4 → v.Bits.length + y.Bits.length ≤ 140737488351232 := by
      intro v hv y hy h4'
      have e1 := pbsR_mem (List.mem_map_of_mem (f := conv) hv)
      have e2 := pbR_eq (conv v)
      rw [conv_Kind, conv_Bits, if_neg (by omega), conv_L] at e2
      have e3 := pbsR_mem (List.mem_map_of_mem (f := conv) hy)
      have e4 := pbR_eq (conv y)
      rw [conv_Bits] at e4
      omega
    refine Evt.bind (flat_ev ls (by omega) hv (by omega)) (Evt.bind (once_ev (flatC ls) (by omega) (wok_flat hw) fun x hx => ?_) ?_)
    · have := szsR_mem (List.mem_map_of_mem (f := conv) hx); omega
    · have hmem : ∀ a ∈ onceC [] (flatC ls), pbR (conv a) ≤ pbsR (ls.map conv) := by
        intro a ha
        rcases mem_onceC ha with h | h
        · cases h
        · have := mem_flat (l := ls.map conv) (y := conv a) (by rw [← conv_flat]; exact List.mem_map_of_mem (f := conv) h)
          exact this
      match ho : onceC [] (flatC ls) with
      | [] => exact Evt.t rfl Evt.pure
      | [a] =>
        rw [ho] at hmem
        have e1 := hmem a (by simp)
        have e2 := pbR_eq (conv a)
        rw [conv_Bits] at e2
        refine Evt.f rfl (Evt.t rfl (Evt.at (y := a) rfl (Evt.bind (fuse_ev _ a (by omega)) Evt.pure)))
      | a :: b :: l =>
        refine Evt.f (by simp; omega) (Evt.f (by simp; omega) Evt.pure)

theorem simp_L (x v2 : C17) (hw : wok x) (hz : szR (conv x) ≤ 1000000000) (hp : pbR (conv x) ≤ 100000000000000) (hk : x.Kind = 3 ∨ x.Kind = 4) (h2 : x.Kind = 3 → x.L.length = 2)
    (ih : ∀ y ∈ x.L, Evt (fun k => simp_of k y) (simpC y)) : ∀ (n i m : Nat) (acc : List C17), i + n = x.L.length → acc = (x.L.take i).map simpC ++ List.replicate n zeroC →
    Evt (fun k => simp_of_L1 k x v2 x.L (x.L.length : Int) (i : Int) acc m) (finC x (x.L.map simpC))
  | 0, i, m, acc, hi, ha => by
    have hi' : i = x.L.length := by omega
    subst hi'
    rw [List.take_length, List.replicate_zero, List.append_nil] at ha
    subst ha
    have hw' := (wok_iff x).1 hw
    have e0 := szR_eq (conv x)
    have e1 := pbR_eq (conv x)
    rw [conv_L] at e0 e1
    rw [conv_Kind, conv_Bits] at e1
    have h1 : ∀ l : List C17, pbsR ((l.map simpC).map conv) ≤ pbsR (l.map conv) ∧ pbtR ((l.map simpC).map conv) ≤ pbtR (l.map conv) ∧ szsR ((l.map simpC).map conv) ≤ szsR (l.map conv) := by
      intro l
      induction l with
      | nil => exact ⟨Nat.le_refl _, Nat.le_refl _, Nat.le_refl _⟩
      | cons y l ihl =>
        have a := pbR_simp (conv y)
        have b := szR_simp (conv y)
        simp only [List.map_cons, pbsR, pbtR, szsR, conv_simp]
        omega
    obtain ⟨a1, a2, a3⟩ := h1 x.L
    refine simp_end x v2 _ _ m _ _ (by omega) hk (fun h => by rw [List.length_map]; exact h2 h) (fun y hy => ?_) (by omega) ?_
    · obtain ⟨z, hz, rfl⟩ := List.mem_map.1 hy
      exact wok_simp z (hw'.2 z hz)
    · split at e1 <;> rename_i hc
      · rw [if_pos hc]; omega
      · rw [if_neg hc]; omega
  | n + 1, i, m, acc, hi, ha => by
    have hlt : i < x.L.length := by omega
    have e0 := szR_eq (conv x)
    rw [conv_L] at e0
    have hl := szsR_map_len x.L
    have ht : ((x.L.take i).map simpC).length = i := by rw [List.length_map, List.length_take]; omega
    have hacc : acc.length = i + (n + 1) := by rw [ha, List.length_append, ht, List.length_replicate]
    refine Evt.succ ?_
    simp only [simp_of_L1]
    rw [iw (by omega)]
    refine Evt.t (by rw [decide_eq_true_eq]; omega) (Evt.at (at_nat hlt) (Evt.bind (ih _ (List.getElem_mem hlt)) (Evt.at (at_nat (by omega : i < acc.length)) ?_)))
    refine simp_L x v2 hw hz hp hk h2 ih n (i + 1) m _ (by omega) ?_
    rw [ha, Int.toNat_natCast, set_step ht, List.take_succ_eq_append_getElem hlt, List.map_append]
    rfl
theorem simp_ev (x : C17) : wok x → szR (conv x) ≤ 1000000000 → pbR (conv x) ≤ 100000000000000 → formR (conv x) = true → Evt (fun k => simp_of k x) (simpC x) := by
  induction x using C17.ind with
  | h x ih =>
    intro hw hz hp hf
    have hw' := (wok_iff x).1 hw
    have e0 := szR_eq (conv x)
    rw [conv_L] at e0
    have hl := szsR_map_len x.L
    rw [simpC_eq]
    refine Evt.succ ?_
    simp only [simp_of]
    by_cases hk : x.Kind = 3 ∨ x.Kind = 4
    · refine Evt.f (by simp; omega) (Evt.need (by omega) ?_)
      have hkids : ∀ y ∈ x.L, Evt (fun k => simp_of k y) (simpC y) := by
        intro y hy
        have hy' := List.mem_map_of_mem (f := conv) hy
        have hym : conv y ∈ (conv x).L := by rw [conv_L]; exact hy'
        refine ih y hy (hw'.2 y hy) (by have := szsR_mem hy'; omega) (Nat.le_trans (pbR_mem hym) hp) ?_
        rw [formR_eq, Bool.and_eq_true, formsR_all] at hf
        exact List.all_eq_true.1 hf.2 _ hym
      have h2 : x.Kind = 3 → x.L.length = 2 := fun h => by
        have := two_of_form hf (by rw [conv_Kind]; exact h)
        rw [conv_L, List.length_map] at this; exact this
      have := simp_L x (T_coded_Coded.mk 0 [] (Arr.rep 4 0) []) hw hz hp hk h2 hkids x.L.length 0 ((x.L.length : Int) : Int).toNat (List.replicate x.L.length zeroC) (by omega) rfl
      rw [Int.toNat_natCast] at this ⊢
      exact this
    · refine Evt.t (by simp; omega) (Evt.eq ?_)
      unfold finC
      rw [if_neg (by omega), if_neg (by omega)]
theorem simpOf_ev (x : C17) (hw : wok x) (hok : x.ok) (hz : szR (conv x) ≤ 1000000000) (hp : pbR (conv x) ≤ 100000000000000) : Evt (fun k => simp_Of k x) (if goodR (conv x) then simpC x else x) := by
  refine Evt.succ ?_
  simp only [simp_Of]
  refine Evt.bind (Good_ev x hw hok hz) ?_
  cases hg : goodR (conv x) with
  | false => exact Evt.t rfl Evt.pure
  | true =>
    refine Evt.f rfl (Evt.bind (simp_ev x hw hz hp ?_) Evt.pure)
    unfold goodR at hg
    simp only [Bool.and_eq_true] at hg
    exact hg.2.2
end Go.Am
