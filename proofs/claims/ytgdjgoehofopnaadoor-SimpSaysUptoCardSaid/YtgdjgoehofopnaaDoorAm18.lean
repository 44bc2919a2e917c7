/- Regions whose order is open: neighbours that are apart change places. -/
import Derived.Test.YtgdjgoehofopnaaDoorAm17
set_option linter.unusedSimpArgs false
set_option linter.unusedVariables false
set_option linter.unnecessarySimpa false
namespace Go.Am
open Go Go.Lib

/-- What an operation that may change places yields. -/
def yld (C : Con) (op : AOp) (σ : St) (s : Slot) : Prop :=
  match op with
  | .callQ f as => ∃ ds r, σ.gives as = some ds ∧ C f ds σ.H r σ.H ∧ s = .d r
  | .callvQ g as => ∃ f cs ds r, σ.val g = some (.fn f cs) ∧ σ.gives as = some ds ∧ C f (ds ++ cs) σ.H r σ.H ∧ s = .d r
  | op => qv op σ = some s

/-- One step of wpo. -/
def oneP (C : Con) (i : AI) (K : St → Prop) (σ : St) : Prop :=
  away i.nl σ (match i.g with
  | none => (match σ.freeze i.frz with
    | some σ => opP C i.op i.dst K σ
    | none => False)
  | some (t, b) => (match σ.env t with
    | .d (.bool b') => if b' = b then opP C i.op i.dst K σ else K (σ.put i.dst .no)
    | .no => K (σ.put i.dst .no)
    | _ => False))

theorem wpo_cons {C : Con} {i : AI} {is : List AI} {Q : St → Prop} {σ : St} : wpo C (i :: is) Q σ = oneP C i (wpo C is Q) σ := rfl

def isAl : AOp → Bool
  | .alloc _ => true
  | _ => false
def AI.rd (i : AI) : List Nat := (reads i.op).getD [] ++ ((match i.g with | some (t, _) => [t] | none => []) ++ i.nl.map Prod.fst)
def AI.wr (i : AI) : List Nat := i.dst.toList ++ ((dulls i.op .und).map Prod.fst).toList
def AI.moves (V : Nat → Bool) (i : AI) : Bool := (reads i.op).isSome && i.frz.isEmpty && (!isSt i.op || i.dst.isNone) && (!isAl i.op || (i.g.isNone && i.nl.isEmpty && match i.dst with | some a => V a | none => false))
/-- Nothing that it looks at is a place in variable a. -/
def AI.off (x : AI) (a : Nat) : Bool := !readsV x.op && x.rd.all fun n => x.nl.contains (n, a)
def AI.apart (V : Nat → Bool) (k i : AI) : Bool :=
  k.moves V && i.moves V && (!readsV i.op || k.wr.all fun n => !V n) && (!readsV k.op || i.wr.all fun n => !V n) &&
  (!isAl k.op || isAl i.op || match k.dst with | some a => i.off a | none => false) && (!isAl i.op || isAl k.op || match i.dst with | some a => k.off a | none => false) &&
  (k.wr.all fun n => !(i.rd.contains n) && !(i.wr.contains n)) && i.wr.all fun n => !(k.rd.contains n)

/-- The condition: what it yields (none: its guard says no). -/
def Cond (C : Con) (i : AI) (σ : St) (o : Option Slot) : Prop := (i.nl.all fun x => notLoc x.2 (σ.env x.1)) = true ∧
  match i.g with
  | none => ∃ s, o = some s ∧ yld C i.op σ s
  | some (t, b) => (∃ b', σ.env t = .d (.bool b') ∧ if b' = b then ∃ s, o = some s ∧ yld C i.op σ s else o = none) ∨ (σ.env t = .no ∧ o = none)

def eff1 (i : AI) (o : Option Slot) (n : Nat) (s : Slot) : Slot :=
  if i.dst = some n then o.getD .no else match dulls i.op (o.getD .und) with
    | some (m, f) => if o.isSome ∧ m = n then f s else s
    | none => s
def eff (i : AI) (o : Option Slot) (n : Nat) (s : Slot) : Slot :=
  match i.op, i.dst with
  | .alloc z, some a => if n = a then .var z else inval a s
  | _, _ => eff1 i o n s
theorem eff_other {i : AI} (h : isAl i.op = false) (o : Option Slot) (n : Nat) (s : Slot) : eff i o n s = eff1 i o n s := by
  unfold eff
  split
  · rename_i hop _; rw [hop] at h; cases h
  · rfl
theorem eff_al {i : AI} {z : List D} {a : Nat} (h : i.op = .alloc z) (hd : i.dst = some a) (o : Option Slot) (n : Nat) (s : Slot) : eff i o n s = if n = a then .var z else inval a s := by
  simp only [eff, h, hd]
def App (i : AI) (o : Option Slot) (σ : St) : St := { σ with env := fun n => eff i o n (σ.env n) }

section
variable {C : Con} {V : Nat → Bool} {σ τ : St}

theorem app_some (i : AI) (hna : isAl i.op = false) (s : Slot) : (σ.dull (dulls i.op s)).put i.dst s = App i (some s) σ := by
  have hH : ((σ.dull (dulls i.op s)).put i.dst s).H = (App i (some s) σ).H := by
    cases dulls i.op s <;> cases i.dst <;> rfl
  have he : ((σ.dull (dulls i.op s)).put i.dst s).env = (App i (some s) σ).env := by
    funext n
    simp only [App, eff_other hna]
    simp only [eff1, Option.isSome_some, true_and, Option.getD_some]
    cases hd : i.dst with
    | none =>
      cases hu : dulls i.op s with
      | none => simp [St.put, St.dull]
      | some u =>
        simp only [St.put, St.dull, upd]
        by_cases e : n = u.1
        · subst e; simp
        · rw [if_neg e, if_neg (by simp), if_neg (by omega)]
    | some d =>
      simp only [St.put, upd]
      by_cases e : n = d
      · subst e; simp
      · rw [if_neg e, if_neg (by simp; omega)]
        cases hu : dulls i.op s with
        | none => simp [St.dull]
        | some u =>
          simp only [St.dull, upd]
          by_cases e : n = u.1
          · subst e; simp
          · rw [if_neg e, if_neg (by omega)]
  cases hx : (σ.dull (dulls i.op s)).put i.dst s
  cases hy : App i (some s) σ
  rw [hx, hy] at hH he
  simp only at hH he
  rw [hH, he]

theorem app_none (i : AI) (hna : isAl i.op = false) : σ.put i.dst .no = App i none σ := by
  have hH : (σ.put i.dst .no).H = (App i none σ).H := by cases i.dst <;> rfl
  have he : (σ.put i.dst .no).env = (App i none σ).env := by
    funext n
    simp only [App, eff_other hna]
    simp only [eff1, Option.isSome_none, Bool.false_eq_true, false_and, if_false, Option.getD_none]
    cases hd : i.dst with
    | none => cases dulls i.op .und <;> simp [St.put]
    | some d =>
      simp only [St.put, upd]
      by_cases e : n = d
      · subst e; simp
      · rw [if_neg e, if_neg (by simp; omega)]
        cases dulls i.op .und <;> rfl
  cases hx : σ.put i.dst .no
  cases hy : App i none σ
  rw [hx, hy] at hH he
  simp only at hH he
  rw [hH, he]

theorem opP_iff {i : AI} {K : St → Prop} (hm : (reads i.op).isSome = true) (hna : isAl i.op = false) (hst : isSt i.op = true → i.dst = none) : opP C i.op i.dst K σ ↔ ∃ s, yld C i.op σ s ∧ K (App i (some s) σ) := by
  obtain ⟨R, hR⟩ := Option.isSome_iff_exists.1 hm
  have hput : ∀ s, dulls i.op s = none → σ.put i.dst s = App i (some s) σ := fun s h => by rw [← app_some i hna, h]; rfl
  have other : (∀ f as, i.op ≠ .callQ f as) → (∀ f as, i.op ≠ .callvQ f as) → ((match stepF i.op i.dst σ with | some σ' => K σ' | none => False) ↔ ∃ s, qv i.op σ = some s ∧ K (App i (some s) σ)) := by
    intro h1 h2
    rw [quiet_step hR i.dst h1 h2 (fun z e => by rw [e] at hna; cases hna) hst]
    cases hq : qv i.op σ with
    | none => simp
    | some s => simp [app_some i hna]
  generalize hop : i.op = op at *
  cases op <;> simp only [reads] at hR <;> try (cases hR; done)
  case alloc z => cases hna
  case callQ f as =>
    simp only [opP, yld]
    split
    · rename_i ds hg
      constructor
      · rintro ⟨r, h1, h2⟩
        exact ⟨.d r, ⟨ds, r, hg, h1, rfl⟩, by rw [← hput _ rfl]; exact h2⟩
      · rintro ⟨s, ⟨ds', r, h0, h1, rfl⟩, h2⟩
        rw [hg] at h0
        injection h0 with h0
        subst h0
        exact ⟨r, h1, by rw [hput _ rfl]; exact h2⟩
    · rename_i hg
      simp only [false_iff, not_exists, not_and]
      rintro s ⟨ds', r, h0, h1, rfl⟩
      rw [hg] at h0
      cases h0
  case callvQ g as =>
    simp only [opP, yld]
    split
    · rename_i f cs ds hv hg
      constructor
      · rintro ⟨r, h1, h2⟩
        exact ⟨.d r, ⟨f, cs, ds, r, hv, hg, h1, rfl⟩, by rw [← hput _ rfl]; exact h2⟩
      · rintro ⟨s, ⟨f', cs', ds', r, h00, h0, h1, rfl⟩, h2⟩
        rw [hg] at h0
        rw [hv] at h00
        injection h0 with h0
        injection h00 with h00
        injection h00 with h3 h4
        subst h0 h3 h4
        exact ⟨r, h1, by rw [hput _ rfl]; exact h2⟩
    · rename_i hne
      simp only [false_iff, not_exists, not_and]
      rintro s ⟨f', cs', ds', r, h00, h0, h1, rfl⟩
      exact absurd h0 (fun h0 => hne _ _ _ h00 h0)
  all_goals exact other (by simp) (by simp)

theorem one_iff {i : AI} {K : St → Prop} (hm : i.moves V = true) : oneP C i K σ ↔ ∃ o, Cond C i σ o ∧ K (App i o σ) := by
  simp only [AI.moves, Bool.and_eq_true] at hm
  obtain ⟨⟨⟨hm, hf⟩, hst⟩, hal⟩ := hm
  have hf : i.frz = [] := by simpa using hf
  have hst : isSt i.op = true → i.dst = none := by
    intro e
    rw [e] at hst
    simpa using hst
  unfold oneP Cond
  rw [away_iff]
  have core : (match i.g with
      | none => (match σ.freeze i.frz with
        | some σ => opP C i.op i.dst K σ
        | none => False)
      | some (t, b) => (match σ.env t with
        | .d (.bool b') => if b' = b then opP C i.op i.dst K σ else K (σ.put i.dst .no)
        | .no => K (σ.put i.dst .no)
        | _ => False)) ↔ ∃ o, (match i.g with
      | none => ∃ s, o = some s ∧ yld C i.op σ s
      | some (t, b) => (∃ b', σ.env t = .d (.bool b') ∧ if b' = b then ∃ s, o = some s ∧ yld C i.op σ s else o = none) ∨ (σ.env t = .no ∧ o = none)) ∧ K (App i o σ) := by
    cases hop : isAl i.op with
    | true =>
      rw [hop] at hal
      simp only [Bool.not_true, Bool.false_or, Bool.and_eq_true] at hal
      obtain ⟨⟨hg, _⟩, hd⟩ := hal
      have hg : i.g = none := by simpa using hg
      split at hd
      · rename_i a hda
        have : ∃ z, i.op = .alloc z := by
          generalize i.op = op at hop
          cases op <;> first | exact ⟨_, rfl⟩ | cases hop
        obtain ⟨z, hz⟩ := this
        simp only [hg, hf, St.freeze]
        have e1 : ∀ o, App i o σ = { σ with env := updv σ.env a z } := by
          intro o
          unfold App
          congr 1
          funext n
          rw [eff_al hz hda]
          rfl
        rw [hz, hda]
        simp only [opP, stepF, e1]
        constructor
        · intro h; exact ⟨some .und, ⟨.und, rfl, rfl⟩, h⟩
        · rintro ⟨o, _, h⟩; exact h
      · cases hd
    | false =>
      cases hg : i.g with
      | none =>
        simp only [hf, St.freeze]
        rw [opP_iff hm hop hst]
        constructor
        · rintro ⟨s, h1, h2⟩; exact ⟨some s, ⟨s, rfl, h1⟩, h2⟩
        · rintro ⟨o, ⟨s, rfl, h1⟩, h2⟩; exact ⟨s, h1, h2⟩
      | some p =>
        obtain ⟨t, b⟩ := p
        simp only
        constructor
        · intro h
          split at h
          · rename_i b' he
            split at h
            · rename_i hb
              rw [opP_iff hm hop hst] at h
              obtain ⟨s, h1, h2⟩ := h
              exact ⟨some s, .inl ⟨b', he, by rw [if_pos hb]; exact ⟨s, rfl, h1⟩⟩, h2⟩
            · rename_i hb
              exact ⟨none, .inl ⟨b', he, by rw [if_neg hb]⟩, by rw [← app_none i hop]; exact h⟩
          · rename_i he
            exact ⟨none, .inr ⟨he, rfl⟩, by rw [← app_none i hop]; exact h⟩
          · exact h.elim
        · rintro ⟨o, ⟨b', he, hc⟩ | ⟨he, rfl⟩, h2⟩
          case inr => rw [he]; simp only; rw [app_none i hop]; exact h2
          rw [he]
          simp only
          split at hc
          · rename_i hb
            obtain ⟨s, rfl, h1⟩ := hc
            rw [if_pos hb, opP_iff hm hop hst]
            exact ⟨s, h1, h2⟩
          · rename_i hb
            subst hc
            rw [if_neg hb, app_none i hop]
            exact h2
  rw [core]
  constructor
  · rintro ⟨h1, o, h2, h3⟩; exact ⟨o, ⟨h1, h2⟩, h3⟩
  · rintro ⟨o, ⟨h1, h2⟩, h3⟩; exact ⟨h1, o, h2, h3⟩

def Inv (V : Nat → Bool) (σ : St) : Prop := (∀ n t off, σ.env n = .loc t off → V t = true) ∧ ∀ n cs, σ.env n = .var cs → V n = true

theorem yld_congr {op : AOp} {R : List Nat} (hr : reads op = some R) (h : Alike V (readsV op) R σ τ) (hi : Inv V σ) {s : Slot} (hy : yld C op σ s) : yld C op τ s := by
  have other : qv op σ = some s → qv op τ = some s := fun h' => by rw [← qv_congr hr h hi.1 hi.2]; exact h'
  cases op <;> simp only [reads] at hr <;> try (cases hr; done)
  case callQ f as =>
    injection hr with hr
    obtain ⟨ds, r, h0, h1, h2⟩ := hy
    exact ⟨ds, r, by rw [← h.gives (fun n hn => by rw [← hr]; exact hn)]; exact h0, by rw [← h.H]; exact h1, h2⟩
  case callvQ g as =>
    injection hr with hr
    obtain ⟨f, cs, ds, r, h00, h0, h1, h2⟩ := hy
    exact ⟨f, cs, ds, r, by rw [← h.val (fun n hn => by rw [← hr]; simp [hn])]; exact h00, by rw [← h.gives (fun n hn => by rw [← hr]; simp [hn])]; exact h0, by rw [← h.H]; exact h1, h2⟩
  all_goals exact other hy

theorem cond_congr {i : AI} (hm : (reads i.op).isSome = true) (h : Alike V (readsV i.op) i.rd σ τ) (hi : Inv V σ) {o : Option Slot} (hy : Cond C i σ o) : Cond C i τ o := by
  obtain ⟨R, hR⟩ := Option.isSome_iff_exists.1 hm
  have ha : Alike V (readsV i.op) R σ τ := h.mono fun n hn => by simp [AI.rd, hR, hn]
  unfold Cond at hy ⊢
  obtain ⟨hn, hy⟩ := hy
  refine ⟨?_, ?_⟩
  · rw [List.all_eq_true] at hn ⊢
    intro x hx
    rw [← h.r x.1 (by simp only [AI.rd, List.mem_append, List.mem_map]; exact .inr (.inr ⟨x, hx, rfl⟩))]
    exact hn x hx
  cases hg : i.g with
  | none =>
    rw [hg] at hy
    obtain ⟨s, h1, h2⟩ := hy
    exact ⟨s, h1, yld_congr hR ha hi h2⟩
  | some p =>
    obtain ⟨t, b⟩ := p
    rw [hg] at hy
    rcases hy with ⟨b', h1, h2⟩ | ⟨h1, h2⟩
    case inr => exact .inr ⟨by rw [← h.r t (by simp [AI.rd, hg])]; exact h1, h2⟩
    refine .inl ⟨b', by rw [← h.r t (by simp [AI.rd, hg])]; exact h1, ?_⟩
    split at h2
    · rename_i hb
      rw [if_pos hb]
      obtain ⟨s, h3, h4⟩ := h2
      exact ⟨s, h3, yld_congr hR ha hi h4⟩
    · rename_i hb
      rw [if_neg hb]; exact h2

theorem dulls_fst (op : AOp) (y : Slot) : (dulls op y).map Prod.fst = (dulls op .und).map Prod.fst := by
  cases op <;> try rfl
  case mv a => cases a <;> rfl

theorem eff_id {i : AI} {o : Option Slot} {n : Nat} {s : Slot} (hna : isAl i.op = false) (h : n ∉ i.wr) : eff i o n s = s := by
  rw [eff_other hna]
  simp only [AI.wr, List.mem_append, not_or, Option.mem_toList] at h
  unfold eff1
  rw [if_neg h.1]
  cases hu : dulls i.op (o.getD .und) with
  | none => rfl
  | some u =>
    rw [← dulls_fst i.op (o.getD .und), hu] at h
    exact if_neg (fun e => h.2 (by simp [e.2]))

theorem dulls_cases {op : AOp} {y : Slot} {m : Nat} {f : Slot → Slot} (h : dulls op y = some (m, f)) : f = dullS ∨ (∃ off, f = dullV off) ∨ ∃ off, f = storeV off y := by
  unfold dulls at h
  split at h <;> first | (cases h; done) | (injection h with h; injection h with _ h; subst h; first | exact .inl rfl | exact .inr (.inl ⟨_, rfl⟩) | exact .inr (.inr ⟨_, rfl⟩))

theorem storeV_cases (off : Nat) (y s : Slot) : (∃ cs cs', s = .var cs ∧ storeV off y s = .var cs') ∨ ((∀ cs, s ≠ .var cs) ∧ storeV off y s = s) := by
  cases s with
  | var cs =>
    refine .inl ⟨cs, ?_⟩
    cases y with
    | d d =>
      simp only [storeV]
      split <;> exact ⟨_, trivial, rfl⟩
    | und => exact ⟨_, rfl, rfl⟩
    | no => exact ⟨_, rfl, rfl⟩
    | var _ => exact ⟨_, rfl, rfl⟩
    | loc _ _ => exact ⟨_, rfl, rfl⟩
  | und => exact .inr ⟨fun cs e => (by cases e), by cases y <;> rfl⟩
  | no => exact .inr ⟨fun cs e => (by cases e), by cases y <;> rfl⟩
  | d x => exact .inr ⟨fun cs e => (by cases e), by cases y <;> rfl⟩
  | loc t o => exact .inr ⟨fun cs e => (by cases e), by cases y <;> rfl⟩

theorem dullS_cases (s : Slot) : (∃ e xs, s = .d (.own e xs) ∧ dullS s = .d (.list xs)) ∨ dullS s = s := by
  unfold dullS
  split
  · exact .inl ⟨_, _, rfl, rfl⟩
  · exact .inr rfl

theorem dullV_cases (off : Nat) (s : Slot) : (∃ cs cs', s = .var cs ∧ dullV off s = .var cs') ∨ ((∀ cs, s ≠ .var cs) ∧ dullV off s = s) := by
  cases s with
  | var cs =>
    refine .inl ⟨cs, ?_⟩
    simp only [dullV]
    split
    · split <;> exact ⟨_, trivial, rfl⟩
    · exact ⟨_, trivial, rfl⟩
  | und => exact .inr ⟨fun cs e => (by cases e), rfl⟩
  | no => exact .inr ⟨fun cs e => (by cases e), rfl⟩
  | d x => exact .inr ⟨fun cs e => (by cases e), rfl⟩
  | loc t o => exact .inr ⟨fun cs e => (by cases e), rfl⟩

theorem dulls_keeps {op : AOp} {y : Slot} {m : Nat} {f : Slot → Slot} (h : dulls op y = some (m, f)) (s : Slot) : (∀ cs, f s = .var cs → ∃ cs', s = .var cs') ∧ ∀ t off, f s = .loc t off → s = .loc t off := by
  rcases dulls_cases h with rfl | ⟨off, rfl⟩ | ⟨off, rfl⟩
  · rcases dullS_cases s with ⟨e, xs, rfl, h2⟩ | h2 <;> rw [h2]
    · exact ⟨fun cs e => (by cases e), fun t off e => (by cases e)⟩
    · exact ⟨fun cs e => ⟨_, e⟩, fun t off e => e⟩
  · rcases dullV_cases off s with ⟨cs, cs', rfl, h2⟩ | ⟨_, h2⟩ <;> rw [h2]
    · exact ⟨fun _ _ => ⟨_, rfl⟩, fun t off e => (by cases e)⟩
    · exact ⟨fun cs e => ⟨_, e⟩, fun t off e => e⟩
  · rcases storeV_cases off y s with ⟨cs, cs', rfl, h2⟩ | ⟨_, h2⟩ <;> rw [h2]
    · exact ⟨fun _ _ => ⟨_, rfl⟩, fun t off e => (by cases e)⟩
    · exact ⟨fun cs e => ⟨_, e⟩, fun t off e => e⟩

theorem inval_loc (a : Nat) (s : Slot) : (∃ o, s = .loc a o ∧ inval a s = .und) ∨ inval a s = s := by
  cases s with
  | loc t o =>
    simp only [inval]
    by_cases e : t = a
    · subst e; exact .inl ⟨o, rfl, by simp⟩
    · rw [if_neg e]; exact .inr rfl
  | und => exact .inr rfl
  | no => exact .inr rfl
  | d x => exact .inr rfl
  | var cs => exact .inr rfl

/-- What is yielded, by what is looked at. -/
theorem cond_yld {M : Nat → Prop} {i : AI} {R : List Nat} (hR : reads i.op = some R) {o : Option Slot} (hy : Cond C i σ o) (hv : ∀ n ∈ R, ∀ t off, σ.env n = .loc t off → M t) (hvar : ∀ n ∈ R, ∀ cs, σ.env n = .var cs → M n) {s : Slot} (e : o = some s) :
    (∀ cs, s ≠ .var cs) ∧ ∀ t off, s = .loc t off → M t := by
  have hyl : yld C i.op σ s := by
    subst e
    unfold Cond at hy
    obtain ⟨_, hy⟩ := hy
    split at hy
    · obtain ⟨s', h1, h2⟩ := hy; injection h1 with h1; subst h1; exact h2
    · rcases hy with ⟨b', h1, h2⟩ | ⟨_, h2⟩
      case inr => cases h2
      split at h2
      · obtain ⟨s', h3, h4⟩ := h2; injection h3 with h3; subst h3; exact h4
      · cases h2
  generalize i.op = op at hR hyl
  unfold yld at hyl
  split at hyl
  · obtain ⟨_, _, _, _, rfl⟩ := hyl
    exact ⟨fun cs e => (by cases e), fun t off e => (by cases e)⟩
  · obtain ⟨_, _, _, _, _, _, _, rfl⟩ := hyl
    exact ⟨fun cs e => (by cases e), fun t off e => (by cases e)⟩
  · exact qv_loc hR hyl hv hvar

theorem inv_app {i : AI} (hm : i.moves V = true) (hi : Inv V σ) {o : Option Slot} (hy : Cond C i σ o) : Inv V (App i o σ) := by
  simp only [AI.moves, Bool.and_eq_true] at hm
  obtain ⟨⟨⟨hm, hf⟩, _⟩, hal⟩ := hm
  obtain ⟨R, hR⟩ := Option.isSome_iff_exists.1 hm
  have key : ∀ n, (∀ cs, eff i o n (σ.env n) = .var cs → V n = true) ∧ ∀ t off, eff i o n (σ.env n) = .loc t off → V t = true := by
    intro n
    cases hop : isAl i.op with
    | true =>
      rw [hop] at hal
      simp only [Bool.not_true, Bool.false_or, Bool.and_eq_true] at hal
      obtain ⟨_, hd⟩ := hal
      split at hd
      · rename_i a hda
        have : ∃ z, i.op = .alloc z := by
          generalize i.op = op at hop
          cases op <;> first | exact ⟨_, rfl⟩ | cases hop
        obtain ⟨z, hz⟩ := this
        rw [eff_al hz hda]
        split
        · rename_i e; subst e
          exact ⟨fun _ _ => hd, fun t off e => (by cases e)⟩
        · refine ⟨fun cs e => ?_, fun t off e => ?_⟩
          · cases hs : σ.env n with
            | var cs' => exact hi.2 n cs' hs
            | loc t o => rw [hs] at e; simp only [inval] at e; split at e <;> cases e
            | d x => rw [hs] at e; simp only [inval] at e; cases e
            | und => rw [hs] at e; simp only [inval] at e; cases e
            | no => rw [hs] at e; simp only [inval] at e; cases e
          · cases hs : σ.env n with
            | var cs' => rw [hs] at e; simp only [inval] at e; cases e
            | loc t' o =>
              rw [hs] at e; simp only [inval] at e
              split at e
              · cases e
              · injection e with e1 e2; subst e1; exact hi.1 n t' o hs
            | d x => rw [hs] at e; simp only [inval] at e; cases e
            | und => rw [hs] at e; simp only [inval] at e; cases e
            | no => rw [hs] at e; simp only [inval] at e; cases e
      · cases hd
    | false =>
      rw [eff_other hop]
      unfold eff1
      by_cases h1 : i.dst = some n
      · rw [if_pos h1]
        cases ho : o with
        | none => exact ⟨fun cs e => (by cases e), fun t off e => (by cases e)⟩
        | some s =>
          obtain ⟨k1, k2⟩ := cond_yld (M := fun t => V t = true) hR hy (fun n _ t off e => hi.1 n t off e) (fun n _ cs e => hi.2 n cs e) ho
          exact ⟨fun cs e => absurd e (k1 cs), k2⟩
      · rw [if_neg h1]
        cases hu : dulls i.op (o.getD .und) with
        | none => exact ⟨fun cs e => hi.2 n cs e, fun t off e => hi.1 n t off e⟩
        | some u =>
          obtain ⟨m, f⟩ := u
          simp only
          split
          · obtain ⟨k1, k2⟩ := dulls_keeps hu (σ.env n)
            exact ⟨fun cs e => by obtain ⟨cs', h⟩ := k1 cs e; exact hi.2 n cs' h, fun t off e => hi.1 n t off (k2 t off e)⟩
          · exact ⟨fun cs e => hi.2 n cs e, fun t off e => hi.1 n t off e⟩
  exact ⟨fun n t off e => (key n).2 t off e, fun n cs e => (key n).1 cs e⟩

theorem alike_app {k : AI} {o : Option Slot} {R : List Nat} {b : Bool} (hna : isAl k.op = false) (hn : ∀ n ∈ k.wr, n ∉ R) (hb : b = true → ∀ n ∈ k.wr, V n = false) : Alike V b R (App k o σ) σ := by
  refine ⟨rfl, fun n hR => eff_id hna fun hw => hn n hw hR, fun e n hV => eff_id hna fun hw => ?_⟩
  rw [hb e n hw] at hV
  cases hV

/-- An alloc's reach. -/
theorem alike_al {k : AI} {o : Option Slot} {R : List Nat} {z : List D} {a : Nat} (hz : k.op = .alloc z) (hda : k.dst = some a) (hn : ∀ n ∈ R, n ≠ a ∧ notLoc a (σ.env n) = true) : Alike V false R (App k o σ) σ := by
  refine ⟨rfl, fun n hR => ?_, fun e => by cases e⟩
  obtain ⟨h1, h2⟩ := hn n hR
  show eff k o n (σ.env n) = σ.env n
  rw [eff_al hz hda, if_neg h1]
  rcases inval_loc a (σ.env n) with ⟨o, h3, _⟩ | h3
  · rw [h3] at h2; simp [notLoc] at h2
  · exact h3

theorem dulls_inval {op : AOp} {y : Slot} {m : Nat} {f : Slot → Slot} (h : dulls op y = some (m, f)) (a : Nat) (s : Slot) : f (inval a s) = inval a (f s) := by
  rcases dulls_cases h with rfl | ⟨off, rfl⟩ | ⟨off, rfl⟩
  · rcases dullS_cases s with ⟨e, xs, rfl, h2⟩ | h2
    · rfl
    · rw [h2]
      rcases inval_loc a s with ⟨o, _, h3⟩ | h3 <;> rw [h3]
      · rfl
      · exact h2
  · rcases dullV_cases off s with ⟨cs, cs', rfl, h2⟩ | ⟨hne, h2⟩
    · rw [h2]; exact h2
    · rw [h2]
      rcases inval_loc a s with ⟨o, _, h3⟩ | h3 <;> rw [h3]
      · rfl
      · exact h2
  · rcases storeV_cases off y s with ⟨cs, cs', rfl, h2⟩ | ⟨hne, h2⟩
    · rw [h2]; exact h2
    · rw [h2]
      rcases inval_loc a s with ⟨o, _, h3⟩ | h3 <;> rw [h3]
      · cases y <;> rfl
      · exact h2

/-- An alloc and what is apart from it. -/
theorem eff_swap {k x : AI} {ok ox : Option Slot} {z : List D} {a : Nat} (hz : k.op = .alloc z) (hda : k.dst = some a) (hx : isAl x.op = false) (hwr : a ∉ x.wr) (hs : ∀ s, ox = some s → ∀ t off, s = .loc t off → t ≠ a) (n : Nat) (s : Slot) :
    eff x ox n (eff k ok n s) = eff k ok n (eff x ox n s) := by
  rw [eff_al hz hda, eff_al hz hda]
  by_cases e : n = a
  · subst e
    rw [if_pos rfl, if_pos rfl, eff_id hx hwr]
  · rw [if_neg e, if_neg e, eff_other hx, eff_other hx]
    unfold eff1
    by_cases h1 : x.dst = some n
    · rw [if_pos h1, if_pos h1]
      cases ho : ox with
      | none => rfl
      | some s' =>
        simp only [Option.getD_some]
        unfold inval
        split
        · rename_i t o' ; rw [if_neg (hs _ ho t o' rfl)]
        · rfl
    · rw [if_neg h1, if_neg h1]
      cases hu : dulls x.op (ox.getD .und) with
      | none => rfl
      | some u =>
        obtain ⟨m, f⟩ := u
        simp only
        split
        · exact dulls_inval hu a s
        · rfl

theorem apart_spec {k i : AI} (h : k.apart V i = true) : k.moves V = true ∧ i.moves V = true ∧ (∀ n ∈ k.wr, n ∉ i.rd ∧ n ∉ i.wr) ∧ (∀ n ∈ i.wr, n ∉ k.rd) ∧ (readsV i.op = true → ∀ n ∈ k.wr, V n = false) ∧ (readsV k.op = true → ∀ n ∈ i.wr, V n = false) ∧
    (isAl k.op = true → isAl i.op = false → ∀ a, k.dst = some a → i.off a = true) ∧ (isAl i.op = true → isAl k.op = false → ∀ a, i.dst = some a → k.off a = true) := by
  simp only [AI.apart, Bool.and_eq_true, List.all_eq_true, Bool.not_eq_true', List.contains_eq_mem, decide_eq_false_iff_not, Bool.or_eq_true] at h
  obtain ⟨⟨⟨⟨⟨⟨⟨h1, h2⟩, h3⟩, h4⟩, h5⟩, h6⟩, h7⟩, h8⟩ := h
  refine ⟨h1, h2, h7, h8, fun e => h3.resolve_left (by simp [e]), fun e => h4.resolve_left (by simp [e]), fun e1 e2 a ha => ?_, fun e1 e2 a ha => ?_⟩
  · have := h5.resolve_left (by simp [e1, e2])
    rw [ha] at this
    exact this
  · have := h6.resolve_left (by simp [e1, e2])
    rw [ha] at this
    exact this

theorem al_spec {i : AI} (hm : i.moves V = true) (h : isAl i.op = true) : ∃ z a, i.op = .alloc z ∧ i.dst = some a ∧ i.g = none ∧ i.nl = [] := by
  simp only [AI.moves, Bool.and_eq_true, h, Bool.not_true, Bool.false_or] at hm
  obtain ⟨_, ⟨hg, hnl⟩, hd⟩ := hm
  split at hd
  · rename_i a ha
    generalize i.op = op at h
    cases op <;> simp only [isAl] at h <;> first | exact ⟨_, a, rfl, ha, by simpa using hg, by simpa using hnl⟩ | cases h
  · cases hd

theorem off_spec {x : AI} {a : Nat} (h : x.off a = true) {o : Option Slot} (hy : Cond C x σ o) : readsV x.op = false ∧ ∀ n ∈ x.rd, notLoc a (σ.env n) = true := by
  simp only [AI.off, Bool.and_eq_true, Bool.not_eq_true', List.all_eq_true, List.contains_eq_mem, decide_eq_true_eq] at h
  exact ⟨h.1, fun n hn => List.all_eq_true.1 hy.1 (n, a) (h.2 n hn)⟩

theorem yld_off {x : AI} {a : Nat} {R : List Nat} (hR : reads x.op = some R) (hrd : a ∉ x.rd) {o : Option Slot} (hy : Cond C x σ o) (ha : ∀ n ∈ x.rd, notLoc a (σ.env n) = true) (s : Slot) (e : o = some s) (t off : Nat) (e2 : s = .loc t off) : t ≠ a := by
  have hin : ∀ n ∈ R, n ∈ x.rd := fun n hn => by simp [AI.rd, hR, hn]
  refine (cond_yld (M := fun t => t ≠ a) hR hy (fun n hn t off he => ?_) (fun n hn cs he e => ?_) e).2 t off e2
  · have := ha n (hin n hn)
    rw [he] at this
    simpa [notLoc] using this
  · subst e; exact hrd (hin n hn)

/-- Neighbours that are apart change places. -/
theorem swap {k i : AI} {K : St → Prop} (h : k.apart V i = true) (hi : Inv V σ) (hk : oneP C k (oneP C i K) σ) : oneP C i (oneP C k K) σ := by
  obtain ⟨mk, mi, h1, h2, h3, h4, h5, h6⟩ := apart_spec h
  rw [one_iff mk] at hk
  obtain ⟨ok, ck, hk⟩ := hk
  rw [one_iff mi] at hk
  obtain ⟨oi, ci, hk⟩ := hk
  have rk : (reads k.op).isSome = true := by simp only [AI.moves, Bool.and_eq_true] at mk; exact mk.1.1.1
  have ri : (reads i.op).isSome = true := by simp only [AI.moves, Bool.and_eq_true] at mi; exact mi.1.1.1
  obtain ⟨Rk, hRk⟩ := Option.isSome_iff_exists.1 rk
  obtain ⟨Ri, hRi⟩ := Option.isSome_iff_exists.1 ri
  suffices hs : Cond C i σ oi ∧ Cond C k (App i oi σ) ok ∧ ∀ n s, s = σ.env n → eff k ok n (eff i oi n s) = eff i oi n (eff k ok n s) by
    obtain ⟨ci', ck', hc⟩ := hs
    rw [one_iff mi]
    refine ⟨oi, ci', ?_⟩
    rw [one_iff mk]
    refine ⟨ok, ck', ?_⟩
    have : App k ok (App i oi σ) = App i oi (App k ok σ) := by
      unfold App
      congr 1
      funext n
      exact hc n _ rfl
    rw [this]
    exact hk
  cases hak : isAl k.op with
  | false =>
    have ci' := cond_congr ri (alike_app (σ := σ) (o := ok) hak (fun n hn => (h1 n hn).1) h3) (inv_app mk hi ck) ci
    cases hai : isAl i.op with
    | false =>
      have ha : Alike V (readsV k.op) k.rd σ (App i oi σ) := by
        have := alike_app (σ := σ) (o := oi) (R := k.rd) hai h2 h4
        exact ⟨this.H.symm, fun n hn => (this.r n hn).symm, fun e n hn => (this.v e n hn).symm⟩
      refine ⟨ci', cond_congr rk ha hi ck, fun n s _ => ?_⟩
      by_cases hk : n ∈ k.wr
      · have := (h1 n hk).2
        simp only [eff_id hai this]
      · simp only [eff_id hak hk]
    | true =>
      obtain ⟨z, a, hz, hda, hg, _⟩ := al_spec mi hai
      obtain ⟨hrv, hoff⟩ := off_spec (h6 hai hak a hda) ck
      have haw : a ∈ i.wr := by simp [AI.wr, hda]
      have hard : a ∉ k.rd := h2 a haw
      have ha : Alike V (readsV k.op) k.rd σ (App i oi σ) := by
        rw [hrv]
        have := alike_al (V := V) (σ := σ) (o := oi) (R := k.rd) hz hda (fun n hn => ⟨fun e => hard (e ▸ hn), hoff n hn⟩)
        exact ⟨this.H.symm, fun n hn => (this.r n hn).symm, fun e => by cases e⟩
      exact ⟨ci', cond_congr rk ha hi ck, fun n s _ => eff_swap hz hda hak (fun hw => (h1 a hw).2 haw) (yld_off hRk hard ck hoff) n s⟩
  | true =>
    obtain ⟨z, a, hz, hda, hg, hnk⟩ := al_spec mk hak
    have haw : a ∈ k.wr := by simp [AI.wr, hda]
    cases hai : isAl i.op with
    | false =>
      obtain ⟨hrv, hoff⟩ := off_spec (h5 hak hai a hda) ci
      have hard : a ∉ i.rd := (h1 a haw).1
      have hoff0 : ∀ n ∈ i.rd, n ≠ a ∧ notLoc a (σ.env n) = true := by
        intro n hn
        have hne : n ≠ a := fun e => hard (e ▸ hn)
        refine ⟨hne, ?_⟩
        have hx := hoff n hn
        have he : (App k ok σ).env n = inval a (σ.env n) := by
          show eff k ok n (σ.env n) = _
          rw [eff_al hz hda, if_neg hne]
        rw [he] at hx
        rcases inval_loc a (σ.env n) with ⟨o, h3, h4⟩ | h3
        · rw [h4] at hx; simp [notLoc] at hx
        · rw [h3] at hx; exact hx
      have hal : Alike V (readsV i.op) i.rd (App k ok σ) σ := by rw [hrv]; exact alike_al hz hda hoff0
      have ci' := cond_congr ri hal (inv_app mk hi ck) ci
      have ha : Alike V (readsV k.op) k.rd σ (App i oi σ) := by
        have := alike_app (σ := σ) (o := oi) (R := k.rd) hai h2 h4
        exact ⟨this.H.symm, fun n hn => (this.r n hn).symm, fun e n hn => (this.v e n hn).symm⟩
      refine ⟨ci', cond_congr rk ha hi ck, fun n s _ => (eff_swap hz hda hai (fun hw => (h1 a haw).2 hw) (yld_off hRi hard ci' fun n hn => (hoff0 n hn).2) n s).symm⟩
    | true =>
      obtain ⟨z', b, hz', hdb, hg', hni⟩ := al_spec mi hai
      have hab : a ≠ b := by
        intro e
        exact (h1 a haw).2 (by simp [AI.wr, hdb, e])
      have free : ∀ {i : AI} {z : List D} {o : Option Slot} {σ τ : St}, i.op = .alloc z → i.g = none → i.nl = [] → Cond C i σ o → Cond C i τ o := by
        intro i z o σ τ h1 h2 h3 h4
        unfold Cond at h4 ⊢
        rw [h2] at h4 ⊢
        rw [h3]
        obtain ⟨_, s, h5, h6⟩ := h4
        rw [h1] at h6
        refine ⟨rfl, s, h5, ?_⟩
        rw [h1]
        exact h6
      refine ⟨free hz' hg' hni ci, free hz hg hnk ck, fun n s _ => ?_⟩
      rw [eff_al hz hda, eff_al hz hda, eff_al hz' hdb, eff_al hz' hdb]
      by_cases e1 : n = a
      · subst e1
        rw [if_pos rfl, if_pos rfl, if_neg hab]
        rfl
      · rw [if_neg e1, if_neg e1]
        by_cases e2 : n = b
        · subst e2
          rw [if_pos rfl, if_pos rfl]
          rfl
        · rw [if_neg e2, if_neg e2]
          rcases inval_loc a s with ⟨o, h3, h4⟩ | h3
          · rcases inval_loc b s with ⟨o', h5, h6⟩ | h5
            · rw [h4, h6]; rfl
            · rw [h4, h5, h4]; rfl
          · rcases inval_loc b s with ⟨o', h5, h6⟩ | h5
            · rw [h3, h6]; rfl
            · rw [h3, h5, h3]

/-- So an operation comes to the front. -/
theorem bubble {i : AI} {l2 : List AI} {Q : St → Prop} : ∀ {l1 : List AI} {σ : St}, (∀ k ∈ l1, k.apart V i = true) → Inv V σ → wpo C (l1 ++ i :: l2) Q σ → wpo C (i :: (l1 ++ l2)) Q σ
  | [], _, _, _, h => h
  | k :: l1, σ, ha, hi, h => by
    rw [List.cons_append, wpo_cons] at h
    have hak := ha k List.mem_cons_self
    obtain ⟨mk, mi, _⟩ := apart_spec hak
    have h' : oneP C k (oneP C i (wpo C (l1 ++ l2) Q)) σ := by
      rw [one_iff mk] at h ⊢
      obtain ⟨ok, ck, hk⟩ := h
      exact ⟨ok, ck, bubble (fun x hx => ha x (List.mem_cons_of_mem _ hx)) (inv_app mk hi ck) hk⟩
    exact swap hak hi h'

end
end Go.Am
