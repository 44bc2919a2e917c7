/- Regions whose order is open. -/
import Derived.Test.YtgdjgoehofopnaaDoorAm18
set_option linter.unusedSimpArgs false
set_option linter.unusedVariables false
set_option linter.unnecessarySimpa false
namespace Go.Am
open Go Go.Lib

/-- Of two operations the later one waits for the earlier, or they are apart; none waits for a later one. -/
def chkDraw (V : Nat → Bool) (is : List AI) (os : List Oper) : Bool :=
  (List.range os.length).all fun i =>
    ((os.getD i default).after.all fun e => !Region.binds .any e || decide (e.on < i)) &&
    (List.range i).all fun k => ((os.getD i default).after.any fun e => e.on == k && Region.binds .any e) || (is.getD k default).apart V (is.getD i default)

section
variable {P : Program} {N : Nat} {V : Nat → Bool} {c0 c : Cx} {σ σ' : St} {a : Act} {w : World} {o : Oper}

theorem chkIs_at {all : List Oper} : ∀ {is : List AI} {os : List Oper}, chkIs P N V all is os = true → ∀ i, i < os.length → chkI P N V all (is.getD i default) (os.getD i default) = true
  | [], [], _, i, h => by simp at h
  | x :: is, y :: os, hc, i, h => by
    rw [chkIs, Bool.and_eq_true] at hc
    cases i with
    | zero => exact hc.1
    | succ i => exact chkIs_at hc.2 i (by simpa using h)
  | [], _ :: _, hc, _, _ => by simp [chkIs] at hc
  | _ :: _, [], hc, _, _ => by simp [chkIs] at hc

theorem chkIs_length {all : List Oper} : ∀ {is : List AI} {os : List Oper}, chkIs P N V all is os = true → is.length = os.length
  | [], [], _ => rfl
  | x :: is, y :: os, hc => by
    rw [chkIs, Bool.and_eq_true] at hc
    simp [chkIs_length hc.2]
  | [], _ :: _, hc => by simp [chkIs] at hc
  | _ :: _, [], hc => by simp [chkIs] at hc

theorem wpAny_of_wpo {ops : Array Oper} {is : List AI} {Q : Exit → Act → World → Prop} {Q' : St → Prop} (hc : chkIs P N V ops.toList is ops.toList = true) (hd : chkDraw V is ops.toList = true)
    (hn : ∀ c' σ' a' w', Sim P N V c0 c' σ' a' w' → Q' σ' → Q .normal a' w') :
    ∀ (fuel : Nat) (listed : Array Bool) (rem : List Nat) (c : Cx) (σ : St) (a : Act) (w : World), listed.size = ops.size → rem = (List.range ops.size).filter (fun i => !listed.getD i true) → rem.length = fuel →
      Sim P N V c0 c σ a w → wpo (Ev P) (rem.map (is.getD · default)) Q' σ → wpAny P .any ops Q fuel listed a w := by
  intro fuel
  induction fuel with
  | zero =>
    intro listed rem c σ a w hs hr hl h hq
    have : rem = [] := List.eq_nil_of_length_eq_zero hl
    subst this
    refine ⟨?_, hn _ _ _ _ h hq⟩
    unfold Region.ready
    rw [List.filter_eq_nil_iff]
    intro i hi
    have : i ∉ (List.range ops.size).filter (fun i => !listed.getD i true) := by rw [← hr]; simp
    rw [List.mem_filter, not_and] at this
    have := this hi
    have this : (!listed.getD i true) = false := by simpa only [Bool.not_eq_true] using this
    rw [this, Bool.false_and]
    simp
  | succ fuel ih =>
    intro listed rem c σ a w hs hr hl h hq
    have hsort : rem.Pairwise (· < ·) := by rw [hr]; exact List.pairwise_lt_range.filter _
    have hmem : ∀ i, i ∈ rem ↔ i < ops.size ∧ listed.getD i true = false := by
      intro i; rw [hr, List.mem_filter, List.mem_range]; simp
    have hgd : ∀ i, i < ops.size → listed.getD i true = listed.getD i false := by
      intro i hi
      simp [Array.getD, hs, hi]
    have hops : ∀ i, i < ops.size → ops[i]? = some (ops.toList.getD i default) := by
      intro i hi
      simp [List.getD_eq_getElem?_getD, hi]
    rw [chkDraw, List.all_eq_true] at hd
    have hdi : ∀ i, i < ops.size → _ := fun i hi => hd i (by simpa using hi)
    refine ⟨fun hready => ?_, fun i hi => ?_⟩
    · exfalso
      match rem, hl with
      | m :: tl, _ =>
        obtain ⟨hm1, hm2⟩ := (hmem m).1 List.mem_cons_self
        have hd1 := hdi m hm1
        rw [Bool.and_eq_true] at hd1
        have : m ∈ Region.ready .any ops listed := by
          unfold Region.ready
          rw [List.mem_filter, List.mem_range]
          refine ⟨hm1, ?_⟩
          rw [hm2, hops m hm1]
          simp only [Bool.not_false, Option.map_some, Option.getD_some, Bool.true_and, Array.all_eq_true_iff_forall_mem]
          intro e he
          have he' := Array.all_eq_true_iff_forall_mem.1 hd1.1 e he
          rw [Bool.or_eq_true] at he' ⊢
          refine he'.imp_right fun hlt => ?_
          have hlt : e.on < m := by simpa using hlt
          cases hcon : listed.getD e.on false with
          | true => rfl
          | false =>
            have : e.on ∈ m :: tl := (hmem _).2 ⟨by omega, by rw [hgd _ (by omega)]; exact hcon⟩
            rcases List.mem_cons.1 this with e1 | e1
            · omega
            · have := (List.pairwise_cons.1 hsort).1 _ e1
              omega
        rw [hready] at this
        cases this
    · have hi' : i < ops.size ∧ listed.getD i true = false ∧ ∀ e ∈ (ops.toList.getD i default).after, Region.binds .any e = true → listed.getD e.on false = true := by
        unfold Region.ready at hi
        rw [List.mem_filter, List.mem_range] at hi
        obtain ⟨h1, h2⟩ := hi
        rw [hops i h1] at h2
        simp only [Option.map_some, Option.getD_some, Bool.and_eq_true, Bool.not_eq_true', Array.all_eq_true_iff_forall_mem, Bool.or_eq_true] at h2
        exact ⟨h1, h2.1, fun e he hb => (h2.2 e he).resolve_left (by simp [hb])⟩
      obtain ⟨h1, h2, h3⟩ := hi'
      have himem : i ∈ rem := (hmem i).2 ⟨h1, h2⟩
      obtain ⟨l1, l2, hl12⟩ := List.append_of_mem himem
      rw [hl12] at hsort
      have hs1 : ∀ k ∈ l1, k < i := fun k hk => (List.pairwise_append.1 hsort).2.2 k hk i List.mem_cons_self
      have hs2 : ∀ k ∈ l2, i < k := fun k hk => (List.pairwise_cons.1 (List.pairwise_append.1 hsort).2.1).1 k hk
      have hapart : ∀ x ∈ l1.map (is.getD · default), x.apart V (is.getD i default) = true := by
        intro x hx
        obtain ⟨k, hk, rfl⟩ := List.mem_map.1 hx
        have hd1 := hdi i h1
        rw [Bool.and_eq_true, List.all_eq_true] at hd1
        have := hd1.2 k (List.mem_range.2 (hs1 k hk))
        rw [Bool.or_eq_true] at this
        refine this.resolve_left fun hany => ?_
        obtain ⟨e, he, hb⟩ := Array.any_eq_true'.1 hany
        rw [Bool.and_eq_true, beq_iff_eq] at hb
        have hlk := h3 e he hb.2
        rw [hb.1] at hlk
        obtain ⟨k1, k2⟩ := (hmem k).1 (by rw [hl12]; exact List.mem_append_left _ hk)
        rw [hgd k k1, hlk] at k2
        cases k2
      rw [hl12, List.map_append, List.map_cons] at hq
      have hq' := bubble hapart ⟨h.locs, h.vars⟩ hq
      rw [wpo_cons] at hq'
      unfold wpOp
      rw [hops i h1]
      simp only
      refine one_sound h (i := is.getD i default) (by simpa using chkIs_at hc i (by simpa using h1)) (K := wpo (Ev P) (l1.map (is.getD · default) ++ l2.map (is.getD · default)) Q') (away_iff.1 hq').2 fun c' σ' a' w' h' hk => ?_
      refine ih _ (l1 ++ l2) c' σ' a' w' (by simpa using hs) ?_ ?_ h' (by rw [List.map_append]; exact hk)
      · have e1 : (List.range ops.size).filter (fun k => !(listed.setIfInBounds i true).getD k true) = rem.filter (fun k => k != i) := by
          rw [hr, List.filter_filter]
          refine List.filter_congr fun k hk => ?_
          rw [List.mem_range] at hk
          by_cases e : k = i
          · subst e
            simp [Array.getD, hs, hk]
          · have : (listed.setIfInBounds i true).getD k true = listed.getD k true := by
              simp [Array.getD, hs, hk, Array.getElem_setIfInBounds, Ne.symm e]
            rw [this]
            simp [e]
        rw [e1, hl12, List.filter_append, List.filter_cons]
        simp only [bne_self_eq_false, Bool.false_eq_true, if_false]
        rw [List.filter_eq_self.2 (fun k hk => by simpa using Nat.ne_of_lt (hs1 k hk)), List.filter_eq_self.2 (fun k hk => by simpa using Nat.ne_of_gt (hs2 k hk))]
      · rw [hl12] at hl
        simp only [List.length_append, List.length_cons] at hl ⊢
        omega

theorem Sim.drawn (h : Sim P N V c0 c σ a w) (n : Nat) : ∃ c', Sim P N V c0 c' σ a { w with drawn := n } := by
  have hw := h.hw
  subst hw
  have := h.world (c' := { c with w := { c.w with drawn := n } })
    ⟨rfl, rfl, rfl, ⟨Nat.le_refl _, fun _ => Nat.le_refl _, fun _ _ _ _ hv => hv, fun _ C e fr hk => ⟨C, e, fr, hk, Nat.le_refl _⟩, fun _ _ hj => hj⟩, fun B _ hO => ⟨rfl, rfl, hO⟩⟩
    h.wf (fun k ow hO hx => ⟨rfl, rfl, rfl⟩) rfl
  exact ⟨_, this⟩

/-- A region. -/
def chkReg (P : Program) (N : Nat) (V : Nat → Bool) (is : List AI) (ops : Array Oper) (draw : Bool) : Bool :=
  chkIs P N V ops.toList is ops.toList && (!draw || (P.follows .mixedOrders && chkDraw V is ops.toList))

end
end Go.Am
