/- Stepping through a function's code: what simp needs; loops. -/
import Derived.Test.YtgdjgoehofopnaaDoorAm23
set_option linter.unusedSimpArgs false
set_option linter.unusedVariables false
set_option linter.unnecessarySimpa false
namespace Go.Am
open Go Go.Lib

section
variable {C : Con} {σ : St} {Q : Ex → St → Prop} {K : St → Prop}

theorem wpc_skip : wpc C .skip Q σ = Q .normal σ := rfl
theorem wpc_reg {is : List AI} : wpc C (.reg is) Q σ = wpo C is (Q .normal) σ := rfl
theorem wpc_seq {a b : AC} : wpc C (.seq a b) Q σ = wpc C a (Ex.then (wpc C b Q) Q) σ := rfl
theorem wpc_block {id : Nat} {b : AC} : wpc C (.block id b) Q σ = wpc C b (Ex.inBlock id Q) σ := rfl
theorem wpc_scope {b : AC} : wpc C (.scope b) Q σ = wpc C b Q σ := rfl
theorem wpc_exit {id : Nat} : wpc C (.exit id) Q σ = Q (.exit id) σ := rfl
theorem wpc_ret : wpc C .ret Q σ = Q .ret σ := rfl
theorem wpc_cond {c : AO} {a b : AC} : wpc C (.cond c a b) Q σ = (match σ.val c with
  | some (.bool t) => if t = true then wpc C a Q σ else wpc C b Q σ
  | _ => False) := rfl
theorem wpc_bnd {str : Bool} {t : Nat} : wpc C (.bnd str t) Q σ = (match σ.val (.t t) with
  | some d => (match d.len? str with
    | some n => n ≤ 140737488351232 → Q .normal σ
    | none => Q .normal σ)
  | none => Q .normal σ) := rfl
theorem then_normal : Ex.then K Q .normal σ = K σ := rfl
theorem then_exit {id : Nat} : Ex.then K Q (.exit id) σ = Q (.exit id) σ := rfl
theorem then_ret : Ex.then K Q .ret σ = Q .ret σ := rfl
theorem inBlock_normal {id : Nat} : Ex.inBlock id Q .normal σ = Q .normal σ := rfl
theorem inBlock_exit {id i : Nat} : Ex.inBlock id Q (.exit i) σ = if i = id then Q .normal σ else Q (.exit i) σ := rfl
theorem inBlock_ret {id : Nat} : Ex.inBlock id Q .ret σ = Q .ret σ := rfl
/-- What is returned, and the objects. -/
def retOK (r : D) (H' : List (Option (List D))) (o : Option D) (σ : St) : Prop := (match o with | some r0 => r0 = r ∨ r0.copy = r | none => False) ∧ σ.H = H'
theorem retOK_some {r r0 : D} {H' : List (Option (List D))} : retOK r H' (some r0) σ = ((r0 = r ∨ r0.copy = r) ∧ σ.H = H') := rfl
theorem retQ_ok {rs : List ARes} {r : D} {H' : List (Option (List D))} (h : retOK r H' (σ.results rs) σ) : ∃ r0, σ.results rs = some r0 ∧ (r0 = r ∨ r0.copy = r) ∧ σ.H = H' := by
  unfold retOK at h
  split at h
  · exact ⟨_, by assumption, h.1, h.2⟩
  · exact h.1.elim
theorem retQ_eq {rs : List ARes} {r : D} {H' : List (Option (List D))} : (∃ r0, σ.results rs = some r0 ∧ (r0 = r ∨ r0.copy = r) ∧ σ.H = H') = retOK r H' (σ.results rs) σ :=
  propext ⟨fun ⟨r0, h1, h2, h3⟩ => by rw [h1]; exact ⟨h2, h3⟩, retQ_ok⟩
theorem retQ_ret {rs : List ARes} {r : D} {H' : List (Option (List D))} : retQ rs r H' .ret σ = retOK r H' (σ.results rs) σ := retQ_eq
theorem retQ_normal {rs : List ARes} {r : D} {H' : List (Option (List D))} : retQ rs r H' .normal σ = retOK r H' (σ.results rs) σ := retQ_eq

theorem opP_mono {op : AOp} {dst : Option Nat} {K K' : St → Prop} (hk : ∀ σ, K σ → K' σ) (h : opP C op dst K σ) : opP C op dst K' σ := by
  have other : (match stepF op dst σ with | some σ' => K σ' | none => False) → (match stepF op dst σ with | some σ' => K' σ' | none => False) := by
    intro h
    split at h
    · exact hk _ h
    · exact h.elim
  cases op
  case call f as =>
    simp only [opP] at h ⊢
    split at h
    · obtain ⟨r, H', h1, h2⟩ := h; exact ⟨r, H', h1, hk _ h2⟩
    · exact h.elim
  case callv g as =>
    simp only [opP] at h ⊢
    split at h
    · obtain ⟨r, H', h1, h2⟩ := h; exact ⟨r, H', h1, hk _ h2⟩
    · exact h.elim
  case callQ f as =>
    simp only [opP] at h ⊢
    split at h
    · obtain ⟨r, h1, h2⟩ := h; exact ⟨r, h1, hk _ h2⟩
    · exact h.elim
  case callvQ g as =>
    simp only [opP] at h ⊢
    split at h
    · obtain ⟨r, h1, h2⟩ := h; exact ⟨r, h1, hk _ h2⟩
    · exact h.elim
  case len s a =>
    simp only [opP] at h ⊢
    split at h
    · split at h
      · exact fun hn => hk _ (h hn)
      · exact h.elim
    · exact h.elim
  all_goals exact other h

theorem wpo_mono {Q Q' : St → Prop} (hq : ∀ σ, Q σ → Q' σ) : ∀ {is : List AI} {σ : St}, wpo C is Q σ → wpo C is Q' σ
  | [], σ, h => hq _ h
  | i :: is, σ, h => by
    unfold wpo at h ⊢
    rw [away_iff] at h ⊢
    obtain ⟨h0, h⟩ := h
    refine ⟨h0, ?_⟩
    split at h
    · split at h
      · exact opP_mono (fun _ h => wpo_mono hq h) h
      · exact h.elim
    · split at h
      · split at h
        · rename_i e; rw [if_pos e]; exact opP_mono (fun _ h => wpo_mono hq h) h
        · rename_i e; rw [if_neg e]; exact wpo_mono hq h
      · exact wpo_mono hq h
      · exact h.elim

theorem then_mono {K K' : St → Prop} {Q Q' : Ex → St → Prop} (hk : ∀ σ, K σ → K' σ) (hq : ∀ e σ, Q e σ → Q' e σ) : ∀ e σ, Ex.then K Q e σ → Ex.then K' Q' e σ := by
  intro e σ h
  cases e
  · exact hk _ h
  · exact hq _ _ h
  · exact hq _ _ h

theorem loopN_mono {body : (Ex → St → Prop) → St → Prop} (hb : ∀ (Q Q' : Ex → St → Prop) (σ : St), (∀ e σ, Q e σ → Q' e σ) → body Q σ → body Q' σ) {Q Q' : Ex → St → Prop} (hq : ∀ e σ, Q e σ → Q' e σ) :
    ∀ {n m : Nat} {σ : St}, n ≤ m → loopN body Q n σ → loopN body Q' m σ
  | 0, _, _, _, h => h.elim
  | n + 1, 0, _, hl, _ => by omega
  | n + 1, m + 1, σ, hl, h => hb _ _ _ (then_mono (fun σ' h' => loopN_mono hb hq (n := n) (m := m) (by omega) h') hq) h

theorem wpc_mono : ∀ {A : AC} {Q Q' : Ex → St → Prop} {σ : St}, (∀ e σ, Q e σ → Q' e σ) → wpc C A Q σ → wpc C A Q' σ := by
  intro A
  induction A with
  | skip => intro Q Q' σ hq h; exact hq _ _ h
  | reg is => intro Q Q' σ hq h; exact wpo_mono (fun σ h => hq _ _ h) h
  | bnd s t =>
    intro Q Q' σ hq h
    simp only [wpc] at h ⊢
    split at h
    · split at h
      · exact fun hn => hq _ _ (h hn)
      · exact hq _ _ h
    · exact hq _ _ h
  | seq A B iha ihb => intro Q Q' σ hq h; exact iha (then_mono (fun σ h => ihb hq h) hq) h
  | cond c A B iha ihb =>
    intro Q Q' σ hq h
    simp only [wpc] at h ⊢
    split at h
    · split at h
      · rename_i e; rw [if_pos e]; exact iha hq h
      · rename_i e; rw [if_neg e]; exact ihb hq h
    · exact h.elim
  | block id A ih =>
    intro Q Q' σ hq h
    refine ih (fun e σ h => ?_) h
    cases e with
    | normal => exact hq _ _ h
    | exit i =>
      simp only [Ex.inBlock] at h ⊢
      split at h
      · rename_i e; rw [if_pos e]; exact hq _ _ h
      · rename_i e; rw [if_neg e]; exact hq _ _ h
    | ret => exact hq _ _ h
  | loop A ih =>
    intro Q Q' σ hq h
    obtain ⟨n, h⟩ := h
    exact ⟨n, loopN_mono (body := wpc C A) (fun _ _ _ hq h => ih hq h) hq (Nat.le_refl n) h⟩
  | scope A ih => intro Q Q' σ hq h; exact ih hq h
  | exit id => intro Q Q' σ hq h; exact hq _ _ h
  | ret => intro Q Q' σ hq h; exact hq _ _ h
  | bad => intro Q Q' σ hq h; exact h.elim

/-- A loop: what holds ahead of each round, and how many rounds are left at the most. -/
theorem wpc_loop_of (I : Nat → St → Prop) {b : AC} (n : Nat) (h0 : I n σ) (step : ∀ n σ, I n σ → wpc C b (Ex.then (fun σ' => ∃ m, m < n ∧ I m σ') Q) σ) : wpc C (.loop b) Q σ := by
  refine ⟨n + 1, ?_⟩
  induction n using Nat.strongRecOn generalizing σ with
  | _ n ih =>
    refine wpc_mono (then_mono (fun σ' ⟨m, hm, hi⟩ => ?_) (fun _ _ h => h)) (step n σ h0)
    exact loopN_mono (body := wpc C b) (n := m + 1) (m := n) (fun _ _ _ hq h => wpc_mono hq h) (fun _ _ h => h) (by omega) (ih m hm hi)

theorem upd_at {e : Nat → Slot} {n m : Nat} {s : Slot} : upd e n s m = if m = n then s else e m := rfl
theorem updv_at {e : Nat → Slot} {n m : Nat} {cs : List D} : updv e n cs m = if m = n then .var cs else inval n (e m) := rfl
theorem start_env {ds : List D} {H : List (Option (List D))} : (St.start ds H).env = fun n => match ds[n]? with | some d => .d d | none => .und := rfl
theorem start_H {ds : List D} {H : List (Option (List D))} : (St.start ds H).H = H := rfl
theorem put_some {σ : St} {n : Nat} {s : Slot} : σ.put (some n) s = { env := upd σ.env n s, H := σ.H } := rfl
theorem put_none {σ : St} {s : Slot} : σ.put none s = σ := rfl
theorem wpo_nil {Q : St → Prop} : wpo C [] Q σ = Q σ := rfl
theorem wpo_plain {d : Option Nat} {op : AOp} {is : List AI} {Q : St → Prop} : wpo C ({ dst := d, op := op } :: is) Q σ = opP C op d (wpo C is Q) σ := rfl
theorem wpo_nl {d : Option Nat} {l : List (Nat × Nat)} {x : Nat × Nat} {op : AOp} {is : List AI} {Q : St → Prop} : wpo C ({ dst := d, nl := x :: l, op := op } :: is) Q σ = away (x :: l) σ (opP C op d (wpo C is Q) σ) := rfl
theorem away_nil {p : Prop} : away [] σ p = p := rfl
theorem away_cons {n a : Nat} {l : List (Nat × Nat)} {p : Prop} : away ((n, a) :: l) σ p = (notLoc a (σ.env n) = true ∧ away l σ p) := rfl
theorem wpo_guard {d : Option Nat} {t : Nat} {b : Bool} {op : AOp} {is : List AI} {Q : St → Prop} : wpo C ({ dst := d, g := some (t, b), op := op } :: is) Q σ =
  (match σ.env t with
    | .d (.bool b') => if b' = b then opP C op d (wpo C is Q) σ else wpo C is Q (σ.put d .no)
    | .no => wpo C is Q (σ.put d .no)
    | _ => False) := rfl
theorem wpo_frz {d : Option Nat} {op : AOp} {x : Nat × Nat} {l : List (Nat × Nat)} {is : List AI} {Q : St → Prop} : wpo C ({ dst := d, frz := x :: l, op := op } :: is) Q σ =
  (match σ.freeze (x :: l) with
    | some σ => opP C op d (wpo C is Q) σ
    | none => False) := rfl

theorem copy_of_bool (b : Bool) : D.copy (D.bool b) = (D.bool b) := rfl
theorem cells_of_bool (b : Bool) : D.cells (D.bool b) = [(D.bool b)] := rfl
theorem one_of_bool (b : Bool) : D.one (D.bool b) = true := rfl
theorem copy_of_int (k : IntKind) (n : Int) : D.copy (D.int k n) = (D.int k n) := rfl
theorem cells_of_int (k : IntKind) (n : Int) : D.cells (D.int k n) = [(D.int k n)] := rfl
theorem one_of_int (k : IntKind) (n : Int) : D.one (D.int k n) = true := rfl
theorem copy_of_flt (k : FloatKind) (n : Nat) : D.copy (D.flt k n) = (D.flt k n) := rfl
theorem cells_of_flt (k : FloatKind) (n : Nat) : D.cells (D.flt k n) = [(D.flt k n)] := rfl
theorem one_of_flt (k : FloatKind) (n : Nat) : D.one (D.flt k n) = true := rfl
theorem copy_of_str (s : List UInt8) : D.copy (D.str s) = (D.str s) := rfl
theorem cells_of_str (s : List UInt8) : D.cells (D.str s) = [(D.str s)] := rfl
theorem one_of_str (s : List UInt8) : D.one (D.str s) = true := rfl
theorem copy_of_nilp  : D.copy (D.nilp) = (D.nilp) := rfl
theorem cells_of_nilp  : D.cells (D.nilp) = [(D.nilp)] := rfl
theorem one_of_nilp  : D.one (D.nilp) = true := rfl
theorem copy_of_ptr (b off : Nat) : D.copy (D.ptr b off) = (D.ptr b off) := rfl
theorem cells_of_ptr (b off : Nat) : D.cells (D.ptr b off) = [(D.ptr b off)] := rfl
theorem one_of_ptr (b off : Nat) : D.one (D.ptr b off) = true := rfl
theorem copy_of_nils  : D.copy (D.nils) = (D.nils) := rfl
theorem cells_of_nils  : D.cells (D.nils) = [(D.nils)] := rfl
theorem one_of_nils  : D.one (D.nils) = true := rfl
theorem copy_of_list (xs : List D) : D.copy (D.list xs) = (D.list xs) := rfl
theorem cells_of_list (xs : List D) : D.cells (D.list xs) = [(D.list xs)] := rfl
theorem one_of_list (xs : List D) : D.one (D.list xs) = true := rfl
theorem copy_of_own (e : Nat) (xs : List D) : D.copy (D.own e xs) = .list xs := rfl
theorem cells_of_own (e : Nat) (xs : List D) : D.cells (D.own e xs) = [(D.own e xs)] := rfl
theorem one_of_own (e : Nat) (xs : List D) : D.one (D.own e xs) = true := rfl
theorem copy_of_ref (b off len sz : Nat) : D.copy (D.ref b off len sz) = (D.ref b off len sz) := rfl
theorem cells_of_ref (b off len sz : Nat) : D.cells (D.ref b off len sz) = [(D.ref b off len sz)] := rfl
theorem one_of_ref (b off len sz : Nat) : D.one (D.ref b off len sz) = true := rfl
theorem copy_of_imm (cs : List D) : D.copy (D.imm cs) = (D.imm cs) := rfl
theorem cells_of_imm (cs : List D) : D.cells (D.imm cs) = [(D.imm cs)] := rfl
theorem one_of_imm (cs : List D) : D.one (D.imm cs) = true := rfl
theorem copy_of_fn (f : Nat) (cs : List D) : D.copy (D.fn f cs) = (D.fn f cs) := rfl
theorem cells_of_fn (f : Nat) (cs : List D) : D.cells (D.fn f cs) = [(D.fn f cs)] := rfl
theorem one_of_fn (f : Nat) (cs : List D) : D.one (D.fn f cs) = true := rfl
theorem copy_of_nilf  : D.copy (D.nilf) = (D.nilf) := rfl
theorem cells_of_nilf  : D.cells (D.nilf) = [(D.nilf)] := rfl
theorem one_of_nilf  : D.one (D.nilf) = true := rfl
theorem copy_of_nili  : D.copy (D.nili) = (D.nili) := rfl
theorem cells_of_nili  : D.cells (D.nili) = [(D.nili)] := rfl
theorem one_of_nili  : D.one (D.nili) = true := rfl
theorem copy_of_iface (t : Nat) (d : D) : D.copy (D.iface t d) = (D.iface t d) := rfl
theorem cells_of_iface (t : Nat) (d : D) : D.cells (D.iface t d) = [(D.iface t d)] := rfl
theorem one_of_iface (t : Nat) (d : D) : D.one (D.iface t d) = true := rfl
theorem copy_of_agg (cs : List D) : D.copy (D.agg cs) = (D.agg cs) := rfl
theorem cells_of_agg (cs : List D) : D.cells (D.agg cs) = cs := rfl
theorem one_of_agg (cs : List D) : D.one (D.agg cs) = false := rfl
theorem copy_of_tup (ds : List D) : D.copy (D.tup ds) = (D.tup ds) := rfl
theorem cells_of_tup (ds : List D) : D.cells (D.tup ds) = [(D.tup ds)] := rfl
theorem one_of_tup (ds : List D) : D.one (D.tup ds) = false := rfl
attribute [go_sem] copy_of_bool cells_of_bool one_of_bool copy_of_int cells_of_int one_of_int copy_of_flt cells_of_flt one_of_flt copy_of_str cells_of_str one_of_str copy_of_nilp cells_of_nilp one_of_nilp copy_of_ptr cells_of_ptr one_of_ptr copy_of_nils cells_of_nils one_of_nils copy_of_list cells_of_list one_of_list copy_of_own cells_of_own one_of_own copy_of_ref cells_of_ref one_of_ref copy_of_imm cells_of_imm one_of_imm copy_of_fn cells_of_fn one_of_fn copy_of_nilf cells_of_nilf one_of_nilf copy_of_nili cells_of_nili one_of_nili copy_of_iface cells_of_iface one_of_iface copy_of_agg cells_of_agg one_of_agg copy_of_tup cells_of_tup one_of_tup
attribute [go_sem] wpc_skip wpc_reg wpc_seq wpc_block wpc_scope wpc_exit wpc_ret wpc_cond wpc_bnd then_normal then_exit then_ret inBlock_normal inBlock_exit inBlock_ret retQ_ret retQ_normal retOK_some upd_at updv_at start_env start_H put_some put_none wpo_nil wpo_plain wpo_guard wpo_frz wpo_nl away_nil away_cons notLoc
attribute [go_sem] opP stepF St.val St.vals St.give St.gives St.spend St.spends St.lv St.rd St.wr Lv.move ofCells cut splice inval D.len? St.results St.res1 St.resL bound? intOf? binStr binInt bin un shift deq eqK deqs St.elems St.obj St.fillParts minmaxOf min2 toBytes toByte
attribute [go_sem] List.getElem?_cons_zero List.getElem?_cons_succ List.getElem?_nil List.length_cons List.length_nil List.map_cons List.map_nil List.all_cons List.all_nil List.take_succ_cons List.take_zero List.take_nil List.drop_succ_cons List.drop_zero List.drop_nil List.cons_append List.nil_append Option.getD_some Option.getD_none Bool.and_true Bool.and_self Bool.and_false Bool.false_and Bool.true_and Bool.false_eq_true Bool.not_true Bool.not_false if_true if_false and_self and_true true_and or_true true_or or_false false_or exists_eq_left' List.length_map Nat.add_zero Nat.zero_add decide_true decide_false

end
end Go.Am
