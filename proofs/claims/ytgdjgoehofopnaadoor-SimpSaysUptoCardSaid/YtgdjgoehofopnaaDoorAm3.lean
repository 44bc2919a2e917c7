/- How a state stays in step with the machine's: what is put, what is carried over from world to world. -/
import Derived.Test.YtgdjgoehofopnaaDoorAm2
set_option linter.unusedSimpArgs false
set_option linter.unusedVariables false
namespace Go.Am
open Go

/-- Of all blocks that have an owner, those of the owners X alone have turned. -/
def Keeps (c c' : Cx) (X : Owner → Prop) : Prop := ∀ B o, c.O B = some o → ¬ X o → c'.w.heap[B]? = c.w.heap[B]? ∧ c'.F B = c.F B ∧ c'.O B = c.O B

theorem CellRel.keeps {P : Program} {c c' : Cx} {X : Owner → Prop} {o : Owner} {d : D} {v : Value} (hl : Le c c') (hk : Keeps c c' X) (hx : ¬ X o) (h : CellRel P c o d v) : CellRel P c' o d v :=
  h.le hl fun g hg => hk g o hg hx

theorem BlockRel.keeps {P : Program} {c c' : Cx} {X : Owner → Prop} {B : Nat} {o : Owner} {oc : Nat → Owner} {cs : List D} (hl : Le c c') (hk : Keeps c c' X) (hx : ¬ X o) (hx' : ∀ i, ¬ X (oc i))
    (h : BlockRel P c B o oc cs) : BlockRel P c' B o oc cs :=
  h.le hl fun g hg => by
    rcases hg with hg | ⟨i, hg⟩
    · exact hk g o hg hx
    · exact hk g (oc i) hg (hx' i)

theorem SlotRel.keeps {P : Program} {c c' : Cx} {X : Owner → Prop} {tm : Nat → Value} {n : Nat} {s : Slot} {v : Value} (hl : Le c c') (hk : Keeps c c' X)
    (h1 : ¬ X (.slot n)) (h2 : ¬ X (.var n)) (h3 : ∀ i, ¬ X (.vc n i)) (h : SlotRel P c tm n s v) : SlotRel P c' tm n s v := by
  cases s with
  | und => trivial
  | no => exact h
  | d x => exact CellRel.keeps hl hk h1 h
  | var cs =>
    obtain ⟨B, hv, hb⟩ := h
    exact ⟨B, hv, hb.keeps hl hk h2 h3⟩
  | loc t off => exact h

theorem HRel.keeps {P : Program} {c c' : Cx} {X : Owner → Prop} {H : List (Option (List D))} (hl : Le c c') (hk : Keeps c c' X) (hj : c'.j = c.j)
    (h1 : ∀ b, ¬ X (.ob b)) (h2 : ∀ b i, ¬ X (.oc b i)) (h : HRel P c H) : HRel P c' H := by
  refine ⟨by rw [hj]; exact h.1, fun b cs hb => ?_⟩
  obtain ⟨B, hB, hr⟩ := h.2 b cs hb
  exact ⟨B, by rw [hj]; exact hB, hr.keeps hl hk (h1 b) (h2 b)⟩

/-- No owner's block has turned. -/
theorem Sim.world {P : Program} {N : Nat} {V : Nat → Bool} {c0 c c' : Cx} {σ : St} {a : Act} {w : World} (h : Sim P N V c0 c σ a w) (hf : Fr c c') (hw : Wf c') (hk : Keeps c c' (fun _ => False)) (hj : c'.j = c.j) :
    Sim P N V c0 c' σ a c'.w :=
  ⟨rfl, hw, h.fr.trans hf, h.size, h.out, h.vars, h.locs, fun n => (h.slots n).keeps hf.le hk (by simp) (by simp) (by simp), h.H.keeps hf.le hk hj (by simp) (by simp), h.dfr⟩

theorem Act.tm_put (a : Act) (n m : Nat) (v : Value) (hn : n < a.tmps.size) : tmOf (a.put (some n) v) m = if m = n then v else tmOf a m := by
  simp only [tmOf, Act.put]
  rw [Array.getD_eq_getD_getElem?, Array.getD_eq_getD_getElem?, Array.getElem?_setIfInBounds]
  by_cases e : m = n
  · subst e; simp [hn]
  · rw [if_neg (Ne.symm e), if_neg e]

/-- A value is put. -/
theorem Sim.put {P : Program} {N : Nat} {V : Nat → Bool} {c0 c : Cx} {σ : St} {a : Act} {w : World} (h : Sim P N V c0 c σ a w) {dst : Option Nat} {s : Slot} {v : Value}
    (hd : ∀ n, dst = some n → n < N ∧ V n = false) (hs : ∀ n, dst = some n → SlotRel P c (tmOf a) n s v) (hv : ∀ cs, s ≠ .var cs) (hloc : ∀ t off, s = .loc t off → V t = true) :
    Sim P N V c0 c (σ.put dst s) (a.put dst v) w := by
  cases dst with
  | none => exact h
  | some n =>
    obtain ⟨hN, hV⟩ := hd n rfl
    have hn : n < a.tmps.size := by rw [h.size]; exact hN
    refine ⟨h.hw, h.wf, h.fr, by simpa [Act.put] using h.size, fun m hm => ?_, fun m cs hm => ?_, fun m t off hm => ?_, fun m => ?_, h.H, h.dfr⟩
    · show upd σ.env n s m = .und
      rw [upd, if_neg (by omega)]
      exact h.out m hm
    · have hm' : upd σ.env n s m = .var cs := hm
      rw [upd] at hm'
      split at hm'
      · exact absurd hm' (hv cs)
      · exact h.vars m cs hm'
    · have hm' : upd σ.env n s m = .loc t off := hm
      rw [upd] at hm'
      split at hm'
      · exact hloc t off hm'
      · exact h.locs m t off hm'
    · show SlotRel P c (tmOf (a.put (some n) v)) m (upd σ.env n s m) (tmOf (a.put (some n) v) m)
      rw [Act.tm_put a n m v hn, upd]
      by_cases e : m = n
      · subst e
        rw [if_pos rfl, if_pos rfl]
        have := hs m rfl
        cases s with
        | und => trivial
        | no => exact this
        | d x => exact this
        | var cs => exact absurd rfl (hv cs)
        | loc t off =>
          obtain ⟨B, h1, h2⟩ := this
          refine ⟨B, ?_, h2⟩
          rw [Act.tm_put a m t v hn, if_neg]
          · exact h1
          · intro e
            have := hloc t off rfl
            rw [e, hV] at this
            exact absurd this (by simp)
      · rw [if_neg e, if_neg e]
        have := h.slots m
        cases hsm : σ.env m with
        | und => trivial
        | no => rw [hsm] at this; exact this
        | d x => rw [hsm] at this; exact this
        | var cs => rw [hsm] at this; exact this
        | loc t off =>
          rw [hsm] at this
          obtain ⟨B, h1, h2⟩ := this
          refine ⟨B, ?_, h2⟩
          rw [Act.tm_put a n t v hn, if_neg]
          · exact h1
          · intro e'
            have := h.locs m t off hsm
            rw [e', hV] at this
            exact absurd this (by simp)

/-- A constant stands for an abstract one. -/
def constOK : D → Value → Bool
  | .bool b, .bool b' => b == b'
  | .int k n, .int k' n' => k == k' && n == n'
  | .flt k n, .float k' n' => k == k' && n == n'
  | .str s, .string b => b.data.toList == s && s.length ≤ bnd
  | .nilp, .pointer none => true
  | .nils, .slice none 0 0 => true
  | .list [], .slice none 0 0 => true
  | .own _ [], .slice none 0 0 => true
  | .nilf, .nilFunc => true
  | .nili, .nilIface => true
  | _, _ => false
def constsOK : List D → List Value → Bool
  | [], [] => true
  | d :: ds, v :: vs => constOK d v && constsOK ds vs
  | _, _ => false
def constOK2 : D → Value → Bool
  | .agg cs, .agg vs => constsOK cs vs.toList
  | d, v => constOK d v

theorem constOK_rep {w : World} {F : Nat → Nat} {j : List Nat} {d : D} {v : Value} (h : constOK d v = true) : Rep w F j d v ∧ d.one = true := by
  unfold constOK at h
  split at h
  · rw [beq_iff_eq.1 h]; exact ⟨.bool _, rfl⟩
  · rw [Bool.and_eq_true, beq_iff_eq, beq_iff_eq] at h; obtain ⟨rfl, rfl⟩ := h; exact ⟨.int _ _, rfl⟩
  · rw [Bool.and_eq_true, beq_iff_eq, beq_iff_eq] at h; obtain ⟨rfl, rfl⟩ := h; exact ⟨.flt _ _, rfl⟩
  · rename_i s b
    rw [Bool.and_eq_true, beq_iff_eq, decide_eq_true_eq] at h
    obtain ⟨rfl, h2⟩ := h
    refine ⟨?_, rfl⟩
    have := Rep.str (w := w) (F := F) (j := j) b.data.toList h2
    rw [Array.toArray_toList] at this
    exact this
  · exact ⟨.nilp, rfl⟩
  · exact ⟨.nils, rfl⟩
  · exact ⟨.list0 _ _, rfl⟩
  · exact ⟨.ownnil _, rfl⟩
  · exact ⟨.nilf, rfl⟩
  · exact ⟨.nili, rfl⟩
  · cases h

theorem constsOK_rep {w : World} {F : Nat → Nat} {j : List Nat} : ∀ {ds : List D} {vs : List Value}, constsOK ds vs = true → ds.length = vs.length ∧ (∀ d ∈ ds, d.one = true) ∧ ∀ (i : Nat) (d : D) (v : Value), ds[i]? = some d → vs[i]? = some v → Rep w F j d v
  | [], [], _ => ⟨rfl, by simp, by simp⟩
  | d :: ds, v :: vs, h => by
    rw [constsOK, Bool.and_eq_true] at h
    obtain ⟨h1, h2, h3⟩ := constsOK_rep (w := w) (F := F) (j := j) h.2
    obtain ⟨k1, k2⟩ := constOK_rep (w := w) (F := F) (j := j) h.1
    refine ⟨by simp [h1], by simpa [k2] using h2, fun i d' v' hd hv => ?_⟩
    cases i with
    | zero => simp at hd hv; subst hd; subst hv; exact k1
    | succ i => simp at hd hv; exact h3 i d' v' hd hv
  | [], _ :: _, h => by simp [constsOK] at h
  | _ :: _, [], h => by simp [constsOK] at h

theorem constOK2_rep {w : World} {F : Nat → Nat} {j : List Nat} {d : D} {v : Value} (h : constOK2 d v = true) : Rep w F j d v := by
  unfold constOK2 at h
  split at h
  · obtain ⟨h1, h2, h3⟩ := constsOK_rep (w := w) (F := F) (j := j) h
    exact .agg _ _ (by simpa using h1) h2 fun i d v hd hv => h3 i d v hd (by simpa using hv)
  · exact (constOK_rep h).1

/-- Operands that say the same. -/
def opr : AO → Operand → Bool
  | .t n, .tmp m => n == m
  | .x n, .tmp m => n == m
  | .k d, .const v => constOK2 d v
  | .k (.fn f []), .func g => f == g
  | _, _ => false
def oprs : List AO → List Operand → Bool
  | [], [] => true
  | a :: as, x :: xs => opr a x && oprs as xs
  | _, _ => false

section
variable {P : Program} {N : Nat} {V : Nat → Bool} {c0 c : Cx} {σ : St} {a : Act} {w : World}

theorem opr_const {d : D} {x : Operand} (h : opr (.k d) x = true) (a : Act) (w : World) (F : Nat → Nat) (j : List Nat) : Rep w F j d (a.eval x) := by
  cases x with
  | tmp m => simp [opr] at h
  | global g => simp [opr] at h
  | const v => exact constOK2_rep (v := v) (by simpa [opr] using h)
  | func g =>
    unfold opr at h
    split at h
    · rename_i e _; cases e
    · rename_i e _; cases e
    · rename_i _ e; cases e
    · rename_i f g' e1 e2
      cases e1; cases e2
      rw [beq_iff_eq] at h
      subst h
      exact .fn _ [] #[] rfl (by simp)
    · cases h

theorem opr_tmp {n : Nat} {x : Operand} (h : opr (.t n) x = true ∨ opr (.x n) x = true) (a : Act) : a.eval x = tmOf a n := by
  unfold opr at h
  cases x <;> simp at h
  subst h
  rfl

theorem Sim.give (h : Sim P N V c0 c σ a w) {ao : AO} {x : Operand} {d : D} (ho : opr ao x = true) (hd : σ.give ao = some d) :
    (∃ n, ao = .x n ∧ σ.env n = .d d ∧ CellRel P c (.slot n) d (a.eval x)) ∨ ((∀ n, ao ≠ .x n) ∧ Rep c.w c.F c.j d (a.eval x)) := by
  cases ao with
  | t n =>
    refine .inr ⟨by simp, ?_⟩
    rw [opr_tmp (.inl ho) a]
    have := h.slots n
    simp only [St.give] at hd
    split at hd
    · rename_i y hy
      rw [hy] at this
      injection hd with hd
      subst hd
      exact CellRel.copy this
    · cases hd
  | x n =>
    refine .inl ⟨n, rfl, ?_⟩
    rw [opr_tmp (.inr ho) a]
    have := h.slots n
    simp only [St.give] at hd
    split at hd
    · rename_i y hy
      rw [hy] at this
      injection hd with hd
      subst hd
      exact ⟨hy, this⟩
    · cases hd
  | k d' =>
    simp only [St.give] at hd
    injection hd with hd
    subst hd
    exact .inr ⟨by simp, opr_const ho _ _ _ _⟩

theorem Sim.val (h : Sim P N V c0 c σ a w) {ao : AO} {x : Operand} {d : D} (ho : opr ao x = true) (hd : σ.val ao = some d) : Rep c.w c.F c.j d (a.eval x) := by
  cases ao with
  | t n =>
    rw [opr_tmp (.inl ho) a]
    have := h.slots n
    simp only [St.val] at hd
    split at hd
    · rename_i y hy
      rw [hy] at this
      injection hd with hd
      subst hd
      exact CellRel.copy this
    · cases hd
  | x n =>
    rw [opr_tmp (.inr ho) a]
    have := h.slots n
    simp only [St.val] at hd
    split at hd
    · rename_i y hy
      rw [hy] at this
      injection hd with hd
      subst hd
      exact CellRel.copy this
    · cases hd
  | k d' =>
    simp only [St.val] at hd
    injection hd with hd
    subst hd
    exact (opr_const ho _ _ _ _).copy

theorem Sim.vals (h : Sim P N V c0 c σ a w) : ∀ {as : List AO} {xs : List Operand} {ds : List D}, oprs as xs = true → σ.vals as = some ds →
    ds.length = xs.length ∧ ∀ (i : Nat) (d : D) (x : Operand), ds[i]? = some d → xs[i]? = some x → Rep c.w c.F c.j d (a.eval x)
  | [], [], ds, _, hd => by simp [St.vals] at hd; subst hd; simp
  | ao :: as, x :: xs, ds, ho, hd => by
    rw [oprs, Bool.and_eq_true] at ho
    rw [St.vals] at hd
    split at hd
    · rename_i d ds' h1 h2
      injection hd with hd
      subst hd
      obtain ⟨k1, k2⟩ := Sim.vals h ho.2 h2
      refine ⟨by simp [k1], fun i d' x' hd hx => ?_⟩
      cases i with
      | zero => simp at hd hx; subst hd; subst hx; exact h.val ho.1 h1
      | succ i => simp at hd hx; exact k2 i d' x' hd hx
    · cases hd
  | [], _ :: _, _, ho, _ => by simp [oprs] at ho
  | _ :: _, [], _, ho, _ => by simp [oprs] at ho

/-- The right to append goes along: the block's owner is another. -/
def Cx.give (c : Cx) (v : Value) (o : Owner) : Cx := { c with O := fun B => if v.ownBlock = some B then some o else c.O B }

theorem Sim.own_lt (h : Sim P N V c0 c σ a w) {B : Nat} {o : Owner} (ho : c.O B = some o) : B < c.w.heap.size := by
  rcases Nat.lt_or_ge B c.w.heap.size with hl | hg
  · exact hl
  · rw [(h.wf B hg).1] at ho; cases ho

theorem Cx.give_le (c : Cx) (v : Value) (o : Owner) : Le c (c.give v o) := ⟨Nat.le_refl _, fun _ => Nat.le_refl _, fun _ _ _ _ h => h, fun _ C e fr h => ⟨C, e, fr, h, Nat.le_refl _⟩, fun _ _ h => h⟩

/-- A block's owner hands it on to a slot. -/
theorem Sim.hand (h : Sim P N V c0 c σ a w) {o o' : Owner} {e : Nat} {xs : List D} {v : Value} (hr : OwnRel P c o e xs v) :
    Fr c (c.give v o') ∧ Wf (c.give v o') ∧ Keeps c (c.give v o') (fun x => x = o) ∧ OwnRel P (c.give v o') o' e xs v := by
  have hO := hr.block
  refine ⟨⟨rfl, rfl, rfl, c.give_le v o', fun B _ hB => ⟨rfl, rfl, ?_⟩⟩, fun B hB => ⟨?_, (h.wf B (by exact hB)).2⟩, fun B o'' hB hx => ⟨rfl, rfl, ?_⟩, ?_⟩
  · show (if v.ownBlock = some B then some o' else c.O B) = none
    rw [if_neg]
    · exact hB
    · intro e; rw [(hO B e).1] at hB; cases hB
  · show (if v.ownBlock = some B then some o' else c.O B) = none
    rw [if_neg]
    · exact (h.wf B hB).1
    · intro e
      have := (hO B e).2
      have hB' : c.w.heap.size ≤ B := hB
      omega
  · show (if v.ownBlock = some B then some o' else c.O B) = c.O B
    rw [if_neg]
    intro e
    rw [(hO B e).1] at hB
    injection hB with hB
    exact hx hB.symm
  · rcases hr with hn | ⟨sz, us, h1, h2, h3, h4, h5, h6, h7⟩
    · exact .inl hn
    · exact .inr ⟨sz, us, h1, h2, h3, h4, h5, h6, fun g hg => ⟨(h7 g hg).1, if_pos hg⟩⟩

end
end Go.Am
