/- Code; results; a function's contract from its body. -/
import Derived.Test.YtgdjgoehofopnaaDoorAm19
import Derived.LoopN
import Derived.Scope
set_option linter.unusedSimpArgs false
set_option linter.unusedVariables false
set_option linter.unnecessarySimpa false
namespace Go.Am
open Go Go.Lib

def AC.isBnd : AC → Bool
  | .bnd _ _ => true
  | _ => false

/-- Is it the code? -/
def chkC (P : Program) (N : Nat) (V : Nat → Bool) : AC → Code → Bool
  | .skip, c => (match c with | .skip => true | .label _ => true | _ => false)
  | .reg is, c => (match c with | .region _ ops draw => chkReg P N V is ops draw | _ => false)
  | .bnd _ _, _ => false
  | .seq a b, c => if a.isBnd then chkC P N V b c else (match c with | .seq x y => chkC P N V a x && chkC P N V b y | _ => false)
  | .cond c a b, d => (match d with | .cond x u v => opr c x && chkC P N V a u && chkC P N V b v | _ => false)
  | .block id b, c => (match c with | .block id' c => id == id' && chkC P N V b c | _ => false)
  | .loop b, c => (match c with | .loop c => chkC P N V b c | _ => false)
  | .scope b, c => (match c with | .scope c => chkC P N V b c | _ => false)
  | .exit id, c => (match c with | .exit id' => id == id' | _ => false)
  | .ret, c => (match c with | .ret => true | _ => false)
  | .bad, _ => false

def Ex.out : Ex → Exit
  | .normal => .normal
  | .exit id => .exit id
  | .ret => .ret

section
variable {P : Program} {N : Nat} {V : Nat → Bool} {c0 c : Cx} {σ σ' : St} {a : Act} {w : World} {o : Oper}

theorem bound_of_rep {F : Nat → Nat} {j : List Nat} {d : D} {v : Value} {s : Bool} {n : Nat} (h : Rep w F j d v) (hn : d.len? s = some n) : n ≤ bnd := by
  cases h <;> cases s <;> simp only [D.len?, Bool.false_eq_true, if_false, if_true] at hn <;> try (cases hn; done)
  all_goals (injection hn with hn; subst hn; first | assumption | (simp; done) | skip)

theorem wpc_sound : ∀ {A : AC} {cd : Code} {Q' : Ex → St → Prop} {Q : Exit → Act → World → Prop} {c : Cx} {σ : St} {a : Act} {w : World}, chkC P N V A cd = true → Sim P N V c0 c σ a w → wpc (Ev P) A Q' σ →
    (∀ e c' σ' a' w', Sim P N V c0 c' σ' a' w' → Q' e σ' → Q e.out a' w') → cd.wp P Q a w := by
  intro A
  induction A with
  | skip =>
    intro cd Q' Q c σ a w hc h hq hn
    simp only [chkC] at hc
    split at hc
    · exact wp_skip (hn .normal _ _ _ _ h hq)
    · exact wp_label (hn .normal _ _ _ _ h hq)
    · cases hc
  | reg is =>
    intro cd Q' Q c σ a w hc h hq hn
    simp only [chkC] at hc
    split at hc
    · rename_i id ops draw
      simp only [chkReg, Bool.and_eq_true, Bool.or_eq_true, Bool.not_eq_true'] at hc
      obtain ⟨hc, hd⟩ := hc
      have hn' : ∀ c' σ' a' w', Sim P N V c0 c' σ' a' w' → Q' .normal σ' → Q .normal a' w' := fun c' σ' a' w' h' hk => hn .normal c' σ' a' w' h' hk
      cases draw with
      | false => exact wp_region_list (wpo_sound hc h hq hn')
      | true =>
        obtain ⟨hm, hd⟩ := hd.resolve_left (by simp)
        refine wp_region_any hm ?_
        obtain ⟨c', h'⟩ := h.drawn (w.drawn + 1)
        refine wpAny_of_wpo hc hd hn' ops.size _ (List.range ops.size) c' σ a _ (by simp) ?_ (by simp) h' ?_
        · symm
          rw [List.filter_eq_self]
          intro i hi
          rw [List.mem_range] at hi
          simp [Array.getD, hi]
        · have : (List.range ops.size).map (is.getD · default) = is := by
            have hl : is.length = ops.size := by have := chkIs_length hc; simpa using this
            refine List.ext_getElem (by simp [hl]) fun i h1 h2 => ?_
            simp [List.getD_eq_getElem?_getD, h2]
          rw [this]
          exact hq
    · cases hc
  | bnd s t => intro cd Q' Q c σ a w hc; simp [chkC] at hc
  | seq A B ihA ihB =>
    intro cd Q' Q c σ a w hc h hq hn
    simp only [chkC] at hc
    split at hc
    · rename_i hb
      have hq : wpc (Ev P) A (Ex.then (wpc (Ev P) B Q') Q') σ := hq
      cases A <;> simp only [AC.isBnd] at hb <;> try (cases hb; done)
      rename_i s t _
      simp only [wpc] at hq
      split at hq
      · rename_i d hd
        split at hq
        · rename_i n hn'
          have hr := h.val (show opr (AO.t t) (Operand.tmp t) = true by simp [opr]) hd
          exact ihB hc h (hq (bound_of_rep hr hn')) hn
        · exact ihB hc h hq hn
      · exact ihB hc h hq hn
    · split at hc
      · rename_i x y
        rw [Bool.and_eq_true] at hc
        refine wp_seq (ihA hc.1 h hq fun e c' σ' a' w' h' hk => ?_)
        cases e with
        | normal => exact ihB hc.2 h' hk hn
        | exit id => exact hn (.exit id) _ _ _ _ h' hk
        | ret => exact hn .ret _ _ _ _ h' hk
      · cases hc
  | cond x A B ihA ihB =>
    intro cd Q' Q c σ a w hc h hq hn
    simp only [chkC] at hc
    split at hc
    · simp only [Bool.and_eq_true] at hc
      obtain ⟨⟨ho, h1⟩, h2⟩ := hc
      simp only [wpc] at hq
      split at hq
      · rename_i t ht
        refine wp_cond (t := t) (rep_bool (h.val ho ht)) ?_
        split at hq
        · rename_i e; subst e; exact ihA h1 h hq hn
        · rename_i e
          have : t = false := by simpa using e
          subst this; exact ihB h2 h hq hn
      · exact hq.elim
    · cases hc
  | block id A ih =>
    intro cd Q' Q c σ a w hc h hq hn
    simp only [chkC] at hc
    split at hc
    · rename_i id' cd'
      simp only [Bool.and_eq_true, beq_iff_eq] at hc
      obtain ⟨rfl, hc⟩ := hc
      refine wp_block (ih hc h hq fun e c' σ' a' w' h' hk => ?_)
      cases e with
      | normal => exact hn .normal _ _ _ _ h' hk
      | exit i =>
        simp only [Ex.inBlock] at hk
        simp only [Ex.out, Exit.inBlock]
        split at hk
        · rename_i e; rw [if_pos e]; exact hn .normal _ _ _ _ h' hk
        · rename_i e; rw [if_neg e]; exact hn (.exit i) _ _ _ _ h' hk
      | ret => exact hn .ret _ _ _ _ h' hk
    · cases hc
  | loop A ih =>
    intro cd Q' Q c σ a w hc h hq hn
    simp only [chkC] at hc
    split at hc
    · rename_i cd'
      obtain ⟨n, hq⟩ := hq
      refine wp_loop_rounds n ?_
      have key : ∀ (n : Nat) (c : Cx) (σ : St) (a : Act) (w : World), Sim P N V c0 c σ a w → loopN (wpc (Ev P) A) Q' n σ → Code.rounds P cd' Q n a w := by
        intro n
        induction n with
        | zero => intro c σ a w h hq; exact hq.elim
        | succ n ihn =>
          intro c σ a w h hq
          refine ih hc h hq fun e c' σ' a' w' h' hk => ?_
          cases e with
          | normal => exact ihn _ _ _ _ h' hk
          | exit id => exact hn (.exit id) _ _ _ _ h' hk
          | ret => exact hn .ret _ _ _ _ h' hk
      exact key n c σ a w h hq
    · cases hc
  | scope A ih =>
    intro cd Q' Q c σ a w hc h hq hn
    simp only [chkC] at hc
    split at hc
    · refine wp_scope_straight (ih hc h hq fun e c' σ' a' w' h' hk => ?_)
      cases e with
      | normal => exact hn .normal _ _ _ _ h' hk
      | exit id => exact hn (.exit id) _ _ _ _ h' hk
      | ret => exact hn .ret _ _ _ _ h' hk
    · cases hc
  | exit id =>
    intro cd Q' Q c σ a w hc h hq hn
    simp only [chkC] at hc
    split at hc
    · rw [beq_iff_eq] at hc
      subst hc
      exact wp_exit (hn (.exit id) _ _ _ _ h hq)
    · cases hc
  | ret =>
    intro cd Q' Q c σ a w hc h hq hn
    simp only [chkC] at hc
    split at hc
    · exact wp_ret (hn .ret _ _ _ _ h hq)
    · cases hc
  | bad => intro cd Q' Q c σ a w hc; simp [chkC] at hc

end
end Go.Am
