/- Steps that a program prints: loops unrolled once, results whatever the objects, one lemma an operation. -/
import Derived.Test.YtgdjgoehofopnaaDoorAm24
set_option linter.unusedSimpArgs false
set_option linter.unusedVariables false
set_option linter.unnecessarySimpa false
namespace Go.Am
open Go Go.Lib

section
variable {C : Con}

theorem opP_ex {ι : Type} [Nonempty ι] {op : AOp} {dst : Option Nat} {K : ι → St → Prop} {σ : St} (h : opP C op dst (fun σ => ∃ x, K x σ) σ) : ∃ x, opP C op dst (K x) σ := by
  have other : (match stepF op dst σ with | some σ' => ∃ x, K x σ' | none => False) → ∃ x, (match stepF op dst σ with | some σ' => K x σ' | none => False) := by
    intro h
    split at h
    · exact h
    · exact h.elim
  cases op
  case call f as =>
    simp only [opP] at h ⊢
    split at h
    · obtain ⟨r, H', h1, x, h2⟩ := h; exact ⟨x, r, H', h1, h2⟩
    · exact h.elim
  case callv g as =>
    simp only [opP] at h ⊢
    split at h
    · obtain ⟨r, H', h1, x, h2⟩ := h; exact ⟨x, r, H', h1, h2⟩
    · exact h.elim
  case callQ f as =>
    simp only [opP] at h ⊢
    split at h
    · obtain ⟨r, h1, x, h2⟩ := h; exact ⟨x, r, h1, h2⟩
    · exact h.elim
  case callvQ g as =>
    simp only [opP] at h ⊢
    split at h
    · obtain ⟨r, h1, x, h2⟩ := h; exact ⟨x, r, h1, h2⟩
    · exact h.elim
  case len s a =>
    simp only [opP] at h ⊢
    split at h
    · split at h
      · rename_i n _
        by_cases hn : n ≤ 140737488351232
        · obtain ⟨x, hx⟩ := h hn; exact ⟨x, fun _ => hx⟩
        · exact ⟨Classical.ofNonempty, fun h => absurd h hn⟩
      · exact h.elim
    · exact h.elim
  all_goals exact other h

theorem wpo_ex {ι : Type} [Nonempty ι] {Q : ι → St → Prop} : ∀ {is : List AI} {σ : St}, wpo C is (fun σ => ∃ x, Q x σ) σ → ∃ x, wpo C is (Q x) σ
  | [], σ, h => h
  | i :: is, σ, h => by
    unfold wpo at h
    rw [away_iff] at h
    obtain ⟨h0, h⟩ := h
    have step : ∀ {σ : St}, opP C i.op i.dst (wpo C is (fun σ => ∃ x, Q x σ)) σ → ∃ x, opP C i.op i.dst (wpo C is (Q x)) σ :=
      fun h => opP_ex (opP_mono (fun _ h => wpo_ex h) h)
    have : ∃ x, (match i.g with
      | none => match σ.freeze i.frz with
        | some σ => opP C i.op i.dst (wpo C is (Q x)) σ
        | none => False
      | some (t, b) => match σ.env t with
        | .d (.bool b') => if b' = b then opP C i.op i.dst (wpo C is (Q x)) σ else wpo C is (Q x) (σ.put i.dst .no)
        | .no => wpo C is (Q x) (σ.put i.dst .no)
        | _ => False) := by
      split at h
      · rename_i hg
        split at h
        · rename_i hf
          obtain ⟨x, hx⟩ := step h
          exact ⟨x, by rw [hg]; simp only [hf]; exact hx⟩
        · exact h.elim
      · rename_i hg
        split at h
        · rename_i ht
          split at h
          · rename_i e; obtain ⟨x, hx⟩ := step h; exact ⟨x, by rw [hg]; simp only [ht]; rw [if_pos e]; exact hx⟩
          · rename_i e; obtain ⟨x, hx⟩ := wpo_ex h; exact ⟨x, by rw [hg]; simp only [ht]; rw [if_neg e]; exact hx⟩
        · rename_i ht; obtain ⟨x, hx⟩ := wpo_ex h; exact ⟨x, by rw [hg]; simp only [ht]; exact hx⟩
        · exact h.elim
    obtain ⟨x, hx⟩ := this
    refine ⟨x, ?_⟩
    unfold wpo
    rw [away_iff]
    exact ⟨h0, hx⟩

theorem then_ex {ι : Type} {K : ι → St → Prop} {Q : ι → Ex → St → Prop} : ∀ e σ, Ex.then (fun σ => ∃ x, K x σ) (fun e σ => ∃ x, Q x e σ) e σ → ∃ x, Ex.then (K x) (Q x) e σ := by
  intro e σ h
  cases e <;> exact h
theorem inBlock_ex {ι : Type} {id : Nat} {Q : ι → Ex → St → Prop} : ∀ e σ, Ex.inBlock id (fun e σ => ∃ x, Q x e σ) e σ → ∃ x, Ex.inBlock id (Q x) e σ := by
  intro e σ h
  cases e with
  | normal => exact h
  | exit i =>
    simp only [Ex.inBlock] at h ⊢
    split at h
    · obtain ⟨x, hx⟩ := h; exact ⟨x, by rename_i e; rw [if_pos e]; exact hx⟩
    · obtain ⟨x, hx⟩ := h; exact ⟨x, by rename_i e; rw [if_neg e]; exact hx⟩
  | ret => exact h

/-- One path alone is gone: what is told behind it may be chosen ahead. -/
theorem wpc_ex {ι : Type} [Nonempty ι] : ∀ {A : AC} {Q : ι → Ex → St → Prop} {σ : St}, wpc C A (fun e σ => ∃ x, Q x e σ) σ → ∃ x, wpc C A (Q x) σ := by
  intro A
  induction A with
  | skip => intro Q σ h; exact h
  | reg is => intro Q σ h; exact wpo_ex h
  | bnd s t =>
    intro Q σ h
    simp only [wpc] at h ⊢
    split at h
    · split at h
      · rename_i n _
        by_cases hn : n ≤ 140737488351232
        · obtain ⟨x, hx⟩ := h hn; exact ⟨x, fun _ => hx⟩
        · exact ⟨Classical.ofNonempty, fun h => absurd h hn⟩
      · exact h
    · exact h
  | seq A B iha ihb =>
    intro Q σ h
    exact iha (wpc_mono (fun e σ h => then_ex (K := fun x => wpc C B (Q x)) e σ (then_mono (fun _ h => ihb h) (fun _ _ h => h) e σ h)) h)
  | cond c A B iha ihb =>
    intro Q σ h
    simp only [wpc] at h ⊢
    split at h
    · split at h
      · rename_i e; obtain ⟨x, hx⟩ := iha h; exact ⟨x, by rw [if_pos e]; exact hx⟩
      · rename_i e; obtain ⟨x, hx⟩ := ihb h; exact ⟨x, by rw [if_neg e]; exact hx⟩
    · exact h.elim
  | block id A ih => intro Q σ h; exact ih (wpc_mono (fun e σ h => inBlock_ex e σ h) h)
  | loop A ih =>
    intro Q σ h
    obtain ⟨n, h⟩ := h
    have : ∀ n (σ : St), loopN (wpc C A) (fun e σ => ∃ x, Q x e σ) n σ → ∃ x, loopN (wpc C A) (Q x) n σ := by
      intro n
      induction n with
      | zero => intro σ h; exact h.elim
      | succ n ihn => intro σ h; exact ih (wpc_mono (fun e σ h => then_ex (K := fun x => loopN (wpc C A) (Q x) n) e σ (then_mono (fun _ h => ihn _ h) (fun _ _ h => h) e σ h)) h)
    obtain ⟨x, hx⟩ := this n σ h
    exact ⟨x, n, hx⟩
  | scope A ih => intro Q σ h; exact ih h
  | exit id => intro Q σ h; exact h
  | ret => intro Q σ h; exact h
  | bad => intro Q σ h; exact h.elim

/-- A loop, unrolled once. -/
theorem wpc_loop_i {b : AC} {Q : Ex → St → Prop} {σ : St} (h : wpc C b (Ex.then (wpc C (.loop b) Q) Q) σ) : wpc C (.loop b) Q σ := by
  have : wpc C b (fun e σ => ∃ n, Ex.then (loopN (wpc C b) Q n) Q e σ) σ := wpc_mono (fun e σ h => by
    cases e
    · obtain ⟨n, h⟩ := h; exact ⟨n, h⟩
    · exact ⟨0, h⟩
    · exact ⟨0, h⟩) h
  obtain ⟨n, hn⟩ := wpc_ex this
  exact ⟨n + 1, hn⟩

/-- What is returned, whatever the objects. -/
def retN (rs : List ARes) (r : D) (e : Ex) (σ : St) : Prop :=
  match e with
  | .exit _ => False
  | _ => ∃ r0, σ.results rs = some r0 ∧ (r0 = r ∨ r0.copy = r)

theorem evc_intro {P : Program} {f : Nat} {fn : Func} {ds : List D} {r : D} (A : AF) (hf : P.funcs[f]? = some fn) (hc : chkF P A fn = true) (hl : ds.length ≤ A.N)
    (hds : ∀ d ∈ ds, d.closed = true) (hr : r.closed = true) (h : wpc (Ev P) A.body (retN A.res r) (St.start ds [])) (H : List (Option (List D))) : Ev P f ds H r H := by
  have h2 : wpc (Ev P) A.body (fun e σ => ∃ H' : List (Option (List D)), retQ A.res r H' e σ) (St.start ds []) := wpc_mono (fun e σ h => by
    cases e with
    | exit i => exact h.elim
    | normal => obtain ⟨r0, h1, h2⟩ := h; exact ⟨σ.H, r0, h1, h2, rfl⟩
    | ret => obtain ⟨r0, h1, h2⟩ := h; exact ⟨σ.H, r0, h1, h2, rfl⟩) h
  obtain ⟨H', h3⟩ := wpc_ex h2
  exact (ev_intro A hf hc hl h3).any hds hr H

/-! Code. -/
variable {Q : Ex → St → Prop} {K : St → Prop} {σ : St} {A B : AC}
theorem c_skip (h : Q .normal σ) : wpc C .skip Q σ := h
theorem c_reg {is : List AI} (h : wpo C is (Q .normal) σ) : wpc C (.reg is) Q σ := h
theorem c_seq (h : wpc C A (Ex.then (wpc C B Q) Q) σ) : wpc C (.seq A B) Q σ := h
theorem c_block {id : Nat} (h : wpc C A (Ex.inBlock id Q) σ) : wpc C (.block id A) Q σ := h
theorem c_scope (h : wpc C A Q σ) : wpc C (.scope A) Q σ := h
theorem c_exit {id : Nat} (h : Q (.exit id) σ) : wpc C (.exit id) Q σ := h
theorem c_ret (h : Q .ret σ) : wpc C .ret Q σ := h
theorem k_then (h : K σ) : Ex.then K Q .normal σ := h
theorem k_then_exit {i : Nat} (h : Q (.exit i) σ) : Ex.then K Q (.exit i) σ := h
theorem k_then_ret (h : Q .ret σ) : Ex.then K Q .ret σ := h
theorem k_block (id : Nat) (h : Q .normal σ) : Ex.inBlock id Q .normal σ := h
theorem k_block_exit (id : Nat) (h : Q .normal σ) : Ex.inBlock id Q (.exit id) σ := by simp only [Ex.inBlock, if_true]; exact h
theorem k_block_exit' {id i : Nat} (hi : i ≠ id) (h : Q (.exit i) σ) : Ex.inBlock id Q (.exit i) σ := by simp only [Ex.inBlock, if_neg hi]; exact h
theorem k_block_ret {id : Nat} (h : Q .ret σ) : Ex.inBlock id Q .ret σ := h
theorem c_cond {c : AO} {b : Bool} (hv : σ.val c = some (.bool b)) (ht : b = true → wpc C A Q σ) (hf : b = false → wpc C B Q σ) : wpc C (.cond c A B) Q σ := by
  simp only [wpc, hv]
  cases b with
  | true => rw [if_pos rfl]; exact ht rfl
  | false => rw [if_neg (by simp)]; exact hf rfl
theorem c_cond_t {c : AO} {b : Bool} (hv : σ.val c = some (.bool b)) (hb : b = true) (ht : wpc C A Q σ) : wpc C (.cond c A B) Q σ := c_cond hv (fun _ => ht) (fun h => by rw [hb] at h; cases h)
theorem c_cond_f {c : AO} {b : Bool} (hv : σ.val c = some (.bool b)) (hb : b = false) (ht : wpc C B Q σ) : wpc C (.cond c A B) Q σ := c_cond hv (fun h => by rw [hb] at h; cases h) (fun _ => ht)
theorem c_bnd {s : Bool} {t : Nat} {d : D} {n : Nat} (hv : σ.val (.t t) = some d) (hn : d.len? s = some n) (h : n ≤ 140737488351232 → Q .normal σ) : wpc C (.bnd s t) Q σ := by
  simp only [wpc, hv, hn]; exact h
theorem c_bnd_list {α : Type} {t : Nat} {xs : List α} {f : α → D} (hv : σ.val (.t t) = some (.list (xs.map f))) (h : xs.length ≤ 140737488351232 → Q .normal σ) : wpc C (.bnd false t) Q σ :=
  c_bnd hv (n := xs.length) (by simp [D.len?]) h
theorem r_one {rs : List ARes} {r d : D} {r1 : ARes} (hrs : rs = [r1]) (h : σ.res1 r1 = some d) (hd : d = r ∨ d.copy = r) : retN rs r .ret σ := by subst hrs; exact ⟨d, h, hd⟩
theorem r_one' {rs : List ARes} {r d : D} {r1 : ARes} (hrs : rs = [r1]) (h : σ.res1 r1 = some d) (hd : d = r ∨ d.copy = r) : retN rs r .normal σ := by subst hrs; exact ⟨d, h, hd⟩
theorem r_many {rs : List ARes} {r : D} {ds : List D} {r1 r2 : ARes} {rs' : List ARes} (hrs : rs = r1 :: r2 :: rs') (h : σ.resL (r1 :: r2 :: rs') = some ds) (hd : .tup ds = r) : retN rs r .ret σ := by
  subst hrs; exact ⟨.tup ds, by show (match σ.resL (r1 :: r2 :: rs') with | some ds => some (D.tup ds) | none => none) = _; rw [h], .inl hd⟩
theorem r_many' {rs : List ARes} {r : D} {ds : List D} {r1 r2 : ARes} {rs' : List ARes} (hrs : rs = r1 :: r2 :: rs') (h : σ.resL (r1 :: r2 :: rs') = some ds) (hd : .tup ds = r) : retN rs r .normal σ := r_many hrs h hd
theorem rl_nil : σ.resL [] = some [] := rfl
theorem rl_cons {r : ARes} {rs : List ARes} {d : D} {ds : List D} (h1 : σ.res1 r = some d) (h2 : σ.resL rs = some ds) : σ.resL (r :: rs) = some (d :: ds) := by simp only [St.resL, h1, h2]
theorem rq_one {rs : List ARes} {r d : D} {r1 : ARes} {H : List (Option (List D))} (hrs : rs = [r1]) (h : σ.res1 r1 = some d) (hd : d = r ∨ d.copy = r) (hH : σ.H = H) : retQ rs r H .ret σ := by subst hrs; exact ⟨d, h, hd, hH⟩
theorem rq_one' {rs : List ARes} {r d : D} {r1 : ARes} {H : List (Option (List D))} (hrs : rs = [r1]) (h : σ.res1 r1 = some d) (hd : d = r ∨ d.copy = r) (hH : σ.H = H) : retQ rs r H .normal σ := by subst hrs; exact ⟨d, h, hd, hH⟩
theorem rq_many {rs : List ARes} {r : D} {ds : List D} {r1 r2 : ARes} {rs' : List ARes} {H : List (Option (List D))} (hrs : rs = r1 :: r2 :: rs') (h : σ.resL (r1 :: r2 :: rs') = some ds) (hd : .tup ds = r) (hH : σ.H = H) : retQ rs r H .ret σ := by
  subst hrs; exact ⟨.tup ds, by show (match σ.resL (r1 :: r2 :: rs') with | some ds => some (D.tup ds) | none => none) = _; rw [h], .inl hd, hH⟩
theorem rq_many' {rs : List ARes} {r : D} {ds : List D} {r1 r2 : ARes} {rs' : List ARes} {H : List (Option (List D))} (hrs : rs = r1 :: r2 :: rs') (h : σ.resL (r1 :: r2 :: rs') = some ds) (hd : .tup ds = r) (hH : σ.H = H) : retQ rs r H .normal σ := rq_many hrs h hd hH
theorem res_t {n : Nat} {d d' : D} (h : σ.env n = .d d) (hd : d.copy = d') : σ.res1 (.t n) = some d' := by simp only [St.res1, h, hd]
theorem res_x {n : Nat} {d : D} (h : σ.env n = .d d) : σ.res1 (.x n) = some d := by simp only [St.res1, h]
theorem res_c {n sz : Nat} {cs ds es : List D} (h : σ.env n = .var cs) (hc : cut cs 0 sz = some ds) (hd : ds.map D.copy = es) : σ.res1 (.c (some sz) n) = some (.agg es) := by
  simp only [St.res1, St.lv, h, St.rd, Option.getD_some, hc, ofCells, hd]
theorem res_c1 {n : Nat} {cs : List D} {d d' : D} (h : σ.env n = .var cs) (hc : cut cs 0 1 = some [d]) (hd : d.copy = d') : σ.res1 (.c none n) = some d' := by
  simp only [St.res1, St.lv, h, St.rd, Option.getD_none, hc, ofCells, hd]
end

/-! Pure words. -/
def need {α : Type} (p : Prop) [Decidable p] (o : Option α) : Option α := if p then o else none
theorem need_some {α : Type} {p : Prop} [Decidable p] {o : Option α} {r : α} (h : need p o = some r) : p ∧ o = some r := by
  unfold need at h
  split at h
  · exact ⟨‹_›, h⟩
  · cases h
theorem need_pos {α : Type} {p : Prop} [Decidable p] {o : Option α} (h : p) : need p o = o := if_pos h
theorem bind_some {α β : Type} {o : Option α} {f : α → Option β} {r : β} (h : o.bind f = some r) : ∃ a, o = some a ∧ f a = some r := by
  cases o with
  | none => cases h
  | some a => exact ⟨a, rfl, h⟩
theorem it_t {α : Type} {b : Bool} {x y : α} {r : α} (h : (if b = true then x else y) = r) (hb : b = true) : x = r := by rw [if_pos hb] at h; exact h
theorem it_f {α : Type} {b : Bool} {x y : α} {r : α} (h : (if b = true then x else y) = r) (hb : b = false) : y = r := by rw [if_neg (by simp [hb])] at h; exact h
/-- A list's element. -/
def at_ {α : Type} (xs : List α) (i : Int) : Option α := if 0 ≤ i then xs[i.toNat]? else none
theorem at_some {α : Type} {xs : List α} {i : Int} {x : α} (h : at_ xs i = some x) : 0 ≤ i ∧ xs[i.toNat]? = some x := by
  unfold at_ at h
  split at h
  · exact ⟨‹_›, h⟩
  · cases h
structure Arr (α : Type) (n : Nat) where
  l : List α
  h : l.length = n
def Arr.set {α : Type} {n : Nat} (a : Arr α n) (i : Int) (x : α) : Arr α n := ⟨a.l.set i.toNat x, by rw [List.length_set, a.h]⟩
def Arr.rep {α : Type} (n : Nat) (x : α) : Arr α n := ⟨List.replicate n x, List.length_replicate⟩

/-! Cutting rows of cells. -/
theorem cut_r {a b : List D} {n off sz : Nat} (h : a.length = n) : cut (a ++ b) (n + off) sz = cut b off sz := by
  unfold cut
  rw [List.length_append, h, List.drop_append, List.drop_of_length_le (by omega), List.nil_append, h]
  rw [show n + off - n = off by omega]
  by_cases hc : off + sz ≤ b.length
  · rw [if_pos hc, if_pos (by omega)]
  · rw [if_neg hc, if_neg (by omega)]
theorem cut_in {a b : List D} {off sz : Nat} {cs : List D} (h : cut a off sz = some cs) : cut (a ++ b) off sz = some cs := by
  unfold cut at h ⊢
  split at h
  · rename_i hl
    injection h with h
    rw [if_pos (by rw [List.length_append]; omega), List.drop_append_of_le_length (by omega), List.take_append_of_le_length (by rw [List.length_drop]; omega), h]
  · cases h
theorem cut_all {a : List D} {n : Nat} (h : a.length = n) : cut a 0 n = some a := by
  unfold cut
  rw [if_pos (by omega), List.drop_zero, List.take_of_length_le (by omega)]
theorem splice_r {a b c ds : List D} {n off : Nat} (h : a.length = n) (hs : splice b off ds = some c) : splice (a ++ b) (n + off) ds = some (a ++ c) := by
  unfold splice at hs ⊢
  split at hs
  · rename_i hl
    injection hs with hs
    rw [if_pos (by rw [List.length_append]; omega), List.take_append, List.take_of_length_le (by omega), h, show n + off - n = off by omega, show n + off + ds.length = n + (off + ds.length) by omega]
    rw [List.drop_append, List.drop_of_length_le (by omega), List.nil_append, h, show n + (off + ds.length) - n = off + ds.length by omega, ← hs]
    simp only [List.append_assoc]
  · cases hs
theorem splice_in {a b c ds : List D} {off : Nat} (hs : splice a off ds = some c) : splice (a ++ b) off ds = some (c ++ b) := by
  unfold splice at hs ⊢
  split at hs
  · rename_i hl
    injection hs with hs
    rw [if_pos (by rw [List.length_append]; omega), List.take_append_of_le_length (by omega), List.drop_append_of_le_length (by omega), ← hs]
    simp only [List.append_assoc]
  · cases hs
theorem splice_all {a ds : List D} {n : Nat} (h : a.length = n) (hd : ds.length = n) : splice a 0 ds = some ds := by
  unfold splice
  rw [if_pos (by omega), List.take_zero, List.nil_append, Nat.zero_add, List.drop_of_length_le (by omega), List.append_nil]
theorem cut_drop {a : List D} {n off sz : Nat} {cs : List D} (h : cut a (n + off) sz = some cs) : cut (a.drop n) off sz = some cs := by
  unfold cut at h ⊢
  split at h
  · injection h with h
    rw [if_pos (by rw [List.length_drop]; omega), List.drop_drop, h]
  · cases h
theorem cut_drop0 {a : List D} {n sz : Nat} {cs : List D} (h : cut a n sz = some cs) : cut (a.drop n) 0 sz = some cs := cut_drop (by rw [Nat.add_zero]; exact h)
/-- Cells of an array of one-celled things. -/
theorem cut_map {α : Type} {f : α → D} {xs : List α} {i : Nat} {x : α} (h : xs[i]? = some x) : cut (xs.map f) i 1 = some [f x] := by
  unfold cut
  have hl : i < xs.length := (List.getElem?_eq_some_iff.1 h).1
  rw [if_pos (by rw [List.length_map]; omega), List.drop_eq_getElem_cons (by rw [List.length_map]; omega), List.take_succ_cons, List.take_zero, List.getElem_map]
  rw [List.getElem?_eq_getElem hl] at h
  injection h with h
  rw [h]
theorem splice_map {α : Type} {f : α → D} {xs : List α} {i : Nat} {x : α} (h : i < xs.length) : splice (xs.map f) i [f x] = some ((xs.set i x).map f) := by
  unfold splice
  rw [if_pos (by rw [List.length_map, List.length_singleton]; omega), List.set_eq_take_append_cons_drop, if_pos h]
  simp [List.map_take, List.map_drop]
end Go.Am
