/- Cells of a type as typed data; answers from some number of rounds on. -/
import Derived.Test.YtgdjgoehofopnaaDoorAm27
set_option linter.unusedVariables false
set_option linter.unusedSimpArgs false
namespace Go.Am
open Go Go.Lib

section
variable {P : Program} {t e : TypeId} {cs : List D}
theorem Ty.inv_int {k : IntKind} (hu : P.underlying t = some (.int k)) (h : Ty P t cs) : ∃ n, cs = [.int k n] ∧ (Lit.int k n).wf = true := by
  cases h with
  | int h hw => rw [hu] at h; cases h; exact ⟨_, rfl, hw⟩
  | bool h => rw [hu] at h; cases h
  | flt h _ => rw [hu] at h; cases h
  | str h _ => rw [hu] at h; cases h
  | list h _ => rw [hu] at h; cases h
  | struct h _ _ => rw [hu] at h; cases h
  | array h _ _ => rw [hu] at h; cases h
theorem Ty.inv_bool (hu : P.underlying t = some .bool) (h : Ty P t cs) : ∃ b, cs = [.bool b] := by
  cases h with
  | int h hw => rw [hu] at h; cases h
  | bool h => exact ⟨_, rfl⟩
  | flt h _ => rw [hu] at h; cases h
  | str h _ => rw [hu] at h; cases h
  | list h _ => rw [hu] at h; cases h
  | struct h _ _ => rw [hu] at h; cases h
  | array h _ _ => rw [hu] at h; cases h
theorem Ty.inv_str (hu : P.underlying t = some .string) (h : Ty P t cs) : ∃ s, cs = [.str s] ∧ s.length ≤ bnd := by
  cases h with
  | int h hw => rw [hu] at h; cases h
  | bool h => rw [hu] at h; cases h
  | flt h _ => rw [hu] at h; cases h
  | str h hl => exact ⟨_, rfl, hl⟩
  | list h _ => rw [hu] at h; cases h
  | struct h _ _ => rw [hu] at h; cases h
  | array h _ _ => rw [hu] at h; cases h
theorem Ty.inv_list (hu : P.underlying t = some (.slice e)) (h : Ty P t cs) : ∃ css : List (List D), cs = [.list (css.map ofElem)] ∧ ∀ c ∈ css, Ty P e c := by
  cases h with
  | int h hw => rw [hu] at h; cases h
  | bool h => rw [hu] at h; cases h
  | flt h _ => rw [hu] at h; cases h
  | str h hl => rw [hu] at h; cases h
  | list h hc => rw [hu] at h; cases h; exact ⟨_, rfl, hc⟩
  | struct h _ _ => rw [hu] at h; cases h
  | array h _ _ => rw [hu] at h; cases h
theorem Ty.inv_struct {fs : Array Field} (hu : P.underlying t = some (.struct fs)) (h : Ty P t cs) : ∃ css : List (List D), cs = css.flatten ∧ css.length = fs.size ∧ ∀ (i : Nat) f c, fs[i]? = some f → css[i]? = some c → Ty P f.type c := by
  cases h with
  | int h hw => rw [hu] at h; cases h
  | bool h => rw [hu] at h; cases h
  | flt h _ => rw [hu] at h; cases h
  | str h hl => rw [hu] at h; cases h
  | list h hc => rw [hu] at h; cases h
  | struct h hl hc => rw [hu] at h; cases h; exact ⟨_, rfl, hl, hc⟩
  | array h _ _ => rw [hu] at h; cases h
theorem Ty.inv_array {n : Nat} (hu : P.underlying t = some (.array n e)) (h : Ty P t cs) : ∃ css : List (List D), cs = css.flatten ∧ css.length = n ∧ ∀ c ∈ css, Ty P e c := by
  cases h with
  | int h hw => rw [hu] at h; cases h
  | bool h => rw [hu] at h; cases h
  | flt h _ => rw [hu] at h; cases h
  | str h hl => rw [hu] at h; cases h
  | list h hc => rw [hu] at h; cases h
  | struct h _ _ => rw [hu] at h; cases h
  | array h hl hc => rw [hu] at h; cases h; exact ⟨_, rfl, hl, hc⟩

theorem choose_all {α β : Type} {Q : α → β → Prop} : ∀ {xs : List α}, (∀ x ∈ xs, ∃ y, Q x y) → ∃ ys : List β, ys.length = xs.length ∧ ∀ (i : Nat) x y, xs[i]? = some x → ys[i]? = some y → Q x y
  | [], _ => ⟨[], rfl, by simp⟩
  | x :: xs, h => by
    obtain ⟨y, hy⟩ := h x (by simp)
    obtain ⟨ys, h1, h2⟩ := choose_all (xs := xs) (fun x' hx => h x' (by simp [hx]))
    refine ⟨y :: ys, by simp [h1], fun i a b ha hb => ?_⟩
    cases i with
    | zero => simp at ha hb; subst ha; subst hb; exact hy
    | succ i => exact h2 i a b (by simpa using ha) (by simpa using hb)
theorem choose_map {α β : Type} {F : β → α} {ok : β → Prop} {xs : List α} (h : ∀ x ∈ xs, ∃ y, x = F y ∧ ok y) : ∃ ys : List β, xs = ys.map F ∧ ∀ y ∈ ys, ok y := by
  induction xs with
  | nil => exact ⟨[], rfl, by simp⟩
  | cons x xs ih =>
    obtain ⟨y, h1, h2⟩ := h x (by simp)
    obtain ⟨ys, h3, h4⟩ := ih (fun x' hx => h x' (by simp [hx]))
    refine ⟨y :: ys, by rw [h1, h3]; rfl, fun z hz => ?_⟩
    rcases List.mem_cons.1 hz with rfl | hz
    · exact h2
    · exact h4 z hz
theorem ofElem_agg {cs : List D} (h : cs.length ≠ 1) : ofElem cs = .agg cs := by
  unfold ofElem
  split
  · exact absurd rfl h
  · rfl

/-- An array of numbers, of bools. -/
theorem Ty.arr_int {n : Nat} {k : IntKind} (hu : P.underlying t = some (.array n e)) (he : P.underlying e = some (.int k)) (h : Ty P t cs) : ∃ a : Arr Int n, cs = a.l.map (D.int k) ∧ ∀ x ∈ a.l, (Lit.int k x).wf = true := by
  obtain ⟨css, rfl, hl, hc⟩ := h.inv_array hu
  obtain ⟨ys, h1, h2⟩ := choose_map (F := fun x => [D.int k x]) (ok := fun x => (Lit.int k x).wf = true) (fun c hc' => by
    obtain ⟨x, hx1, hx2⟩ := (hc c hc').inv_int he; exact ⟨x, hx1, hx2⟩)
  refine ⟨⟨ys, by rw [← hl, h1, List.length_map]⟩, ?_, h2⟩
  show css.flatten = ys.map (D.int k)
  rw [h1]
  clear hl hc h h2 h1
  induction ys with
  | nil => rfl
  | cons y ys ih => simp only [List.map_cons, List.flatten_cons]; rw [ih]; rfl
theorem Ty.arr_bool {n : Nat} (hu : P.underlying t = some (.array n e)) (he : P.underlying e = some .bool) (h : Ty P t cs) : ∃ a : Arr Bool n, cs = a.l.map D.bool := by
  obtain ⟨css, rfl, hl, hc⟩ := h.inv_array hu
  obtain ⟨ys, h1, h2⟩ := choose_map (F := fun x => [D.bool x]) (ok := fun _ => True) (fun c hc' => by
    obtain ⟨x, hx1⟩ := (hc c hc').inv_bool he; exact ⟨x, hx1, trivial⟩)
  refine ⟨⟨ys, by rw [← hl, h1, List.length_map]⟩, ?_⟩
  show css.flatten = ys.map D.bool
  rw [h1]
  clear hl hc h h2 h1
  induction ys with
  | nil => rfl
  | cons y ys ih => simp only [List.map_cons, List.flatten_cons]; rw [ih]; rfl
theorem Ty.list_int {k : IntKind} (hu : P.underlying t = some (.slice e)) (he : P.underlying e = some (.int k)) (h : Ty P t cs) : ∃ l : List Int, cs = [.list (l.map (D.int k))] ∧ ∀ x ∈ l, (Lit.int k x).wf = true := by
  obtain ⟨css, rfl, hc⟩ := h.inv_list hu
  obtain ⟨ys, h1, h2⟩ := choose_map (F := fun x => [D.int k x]) (ok := fun x => (Lit.int k x).wf = true) (fun c hc' => by
    obtain ⟨x, hx1, hx2⟩ := (hc c hc').inv_int he; exact ⟨x, hx1, hx2⟩)
  exact ⟨ys, by rw [h1, List.map_map]; rfl, h2⟩
theorem Ty.list_str (hu : P.underlying t = some (.slice e)) (he : P.underlying e = some .string) (h : Ty P t cs) : ∃ l : List (List UInt8), cs = [.list (l.map D.str)] ∧ ∀ x ∈ l, x.length ≤ bnd := by
  obtain ⟨css, rfl, hc⟩ := h.inv_list hu
  obtain ⟨ys, h1, h2⟩ := choose_map (F := fun x => [D.str x]) (ok := fun x => x.length ≤ bnd) (fun c hc' => by
    obtain ⟨x, hx1, hx2⟩ := (hc c hc').inv_str he; exact ⟨x, hx1, hx2⟩)
  exact ⟨ys, by rw [h1, List.map_map]; rfl, h2⟩
theorem Ty.list_of {α : Type} {F : α → List D} {enc : α → D} {ok : α → Prop} (hu : P.underlying t = some (.slice e)) (hE : ∀ y, ofElem (F y) = enc y) (hd : ∀ c, Ty P e c → ∃ y, c = F y ∧ ok y) (h : Ty P t cs) : ∃ l : List α, cs = [.list (l.map enc)] ∧ ∀ x ∈ l, ok x := by
  obtain ⟨css, rfl, hc⟩ := h.inv_list hu
  obtain ⟨ys, h1, h2⟩ := choose_map (F := F) (ok := ok) (fun c hc' => hd c (hc c hc'))
  exact ⟨ys, by rw [h1, List.map_map]; congr 2; apply List.map_congr_left; intro y _; exact hE y, h2⟩

/-- A type that leads to itself through a slice. -/
theorem Ty.dec_rec {α : Type} {tl : TypeId} {fs : Array Field} {F : α → List D} {enc : α → D} {ok : α → Prop} (hl : P.underlying tl = some (.slice t)) (hs : P.underlying t = some (.struct fs)) (hE : ∀ y, ofElem (F y) = enc y)
    (step : ∀ css : List (List D), css.length = fs.size → (∀ (i : Nat) f c, fs[i]? = some f → css[i]? = some c → Ty P f.type c ∧ (f.type = tl → ∃ l : List α, c = [.list (l.map enc)] ∧ ∀ y ∈ l, ok y)) → ∃ y, css.flatten = F y ∧ ok y) :
    ∀ {t' cs}, Ty P t' cs → (t' = t → ∃ y, cs = F y ∧ ok y) ∧ (t' = tl → ∃ l : List α, cs = [.list (l.map enc)] ∧ ∀ y ∈ l, ok y) := by
  intro t' cs h
  induction h with
  | bool h => exact ⟨fun e => by subst e; rw [hs] at h; (cases h), fun e => by subst e; rw [hl] at h; (cases h)⟩
  | int h _ => exact ⟨fun e => by subst e; rw [hs] at h; (cases h), fun e => by subst e; rw [hl] at h; (cases h)⟩
  | flt h _ => exact ⟨fun e => by subst e; rw [hs] at h; (cases h), fun e => by subst e; rw [hl] at h; (cases h)⟩
  | str h _ => exact ⟨fun e => by subst e; rw [hs] at h; (cases h), fun e => by subst e; rw [hl] at h; (cases h)⟩
  | array h _ _ _ => exact ⟨fun e => by subst e; rw [hs] at h; (cases h), fun e => by subst e; rw [hl] at h; (cases h)⟩
  | list h hc ih =>
    refine ⟨fun e => by subst e; rw [hs] at h; (cases h), fun e => ?_⟩
    subst e
    rw [hl] at h
    cases h
    obtain ⟨ys, h1, h2⟩ := choose_map (F := F) (ok := ok) (fun c hc' => (ih c hc').1 rfl)
    exact ⟨ys, by rw [h1, List.map_map]; congr 2; apply List.map_congr_left; intro y _; exact hE y, h2⟩
  | struct h hlen hc ih =>
    refine ⟨fun e => ?_, fun e => by subst e; rw [hl] at h; (cases h)⟩
    subst e
    rw [hs] at h
    cases h
    exact step _ hlen fun i f c hf hcs => ⟨hc i f c hf hcs, (ih i f c hf hcs).2⟩
def fsOf (P : Program) (t : TypeId) : Array Field := match P.underlying t with | some (.struct fs) => fs | _ => #[]
theorem Ty.inv_str' {fs : Array Field} {ts : List TypeId} (hu : P.underlying t = some (.struct fs)) (hts : fs.toList.map (·.type) = ts) (h : Ty P t cs) : ∃ css : List (List D), cs = css.flatten ∧ css.length = ts.length ∧ ∀ (i : Nat) t' c, ts[i]? = some t' → css[i]? = some c → Ty P t' c := by
  obtain ⟨css, h1, h2, h3⟩ := h.inv_struct hu
  refine ⟨css, h1, by rw [h2, ← hts]; simp, fun i t' c ht hc => ?_⟩
  rw [← hts, List.getElem?_map] at ht
  cases hf : fs.toList[i]? with
  | none => rw [hf] at ht; cases ht
  | some f =>
    rw [hf] at ht
    simp only [Option.map_some, Option.some.injEq] at ht
    subst ht
    exact h3 i f c (by simpa using hf) hc
theorem Ty.dec_rec' {α : Type} {tl : TypeId} {fs : Array Field} {ts : List TypeId} {F : α → List D} {enc : α → D} {ok : α → Prop} (hl : P.underlying tl = some (.slice t)) (hs : P.underlying t = some (.struct fs)) (hts : fs.toList.map (·.type) = ts) (hE : ∀ y, ofElem (F y) = enc y)
    (step : ∀ css : List (List D), css.length = ts.length → (∀ (i : Nat) t' c, ts[i]? = some t' → css[i]? = some c → Ty P t' c ∧ (t' = tl → ∃ l : List α, c = [.list (l.map enc)] ∧ ∀ y ∈ l, ok y)) → ∃ y, css.flatten = F y ∧ ok y) :
    (∀ {cs}, Ty P t cs → ∃ y, cs = F y ∧ ok y) ∧ (∀ {cs}, Ty P tl cs → ∃ l : List α, cs = [.list (l.map enc)] ∧ ∀ y ∈ l, ok y) := by
  have := @Ty.dec_rec P t α tl fs F enc ok hl hs hE (fun css h1 h2 => step css (by rw [h1, ← hts]; simp) fun i t' c ht hc => by
    rw [← hts, List.getElem?_map] at ht
    cases hf : fs.toList[i]? with
    | none => rw [hf] at ht; cases ht
    | some f =>
      rw [hf] at ht
      simp only [Option.map_some, Option.some.injEq] at ht
      subst ht
      exact h2 i f c (by simpa using hf) hc)
  exact ⟨fun h => (this h).1 rfl, fun h => (this h).2 rfl⟩
theorem len1 {α : Type} {l : List α} (h : l.length = 1) : ∃ a, l = [a] := by match l, h with | [a], _ => exact ⟨a, rfl⟩
theorem len2 {α : Type} {l : List α} (h : l.length = 2) : ∃ a b, l = [a, b] := by match l, h with | [a, b], _ => exact ⟨a, b, rfl⟩
theorem len3 {α : Type} {l : List α} (h : l.length = 3) : ∃ a b c, l = [a, b, c] := by match l, h with | [a, b, c], _ => exact ⟨a, b, c, rfl⟩
theorem len4 {α : Type} {l : List α} (h : l.length = 4) : ∃ a b c d, l = [a, b, c, d] := by match l, h with | [a, b, c, d], _ => exact ⟨a, b, c, d, rfl⟩
theorem len5 {α : Type} {l : List α} (h : l.length = 5) : ∃ a b c d e, l = [a, b, c, d, e] := by match l, h with | [a, b, c, d, e], _ => exact ⟨a, b, c, d, e, rfl⟩
theorem len6 {α : Type} {l : List α} (h : l.length = 6) : ∃ a b c d e f, l = [a, b, c, d, e, f] := by match l, h with | [a, b, c, d, e, f], _ => exact ⟨a, b, c, d, e, f, rfl⟩
theorem len7 {α : Type} {l : List α} (h : l.length = 7) : ∃ a b c d e f g, l = [a, b, c, d, e, f, g] := by match l, h with | [a, b, c, d, e, f, g], _ => exact ⟨a, b, c, d, e, f, g, rfl⟩

theorem wf_i64 {n : Int} (h : (Lit.int .i64 n).wf = true) : -9223372036854775808 ≤ n ∧ n ≤ 9223372036854775807 := by
  simp only [Lit.wf, Bool.and_eq_true, decide_eq_true_eq] at h; exact h
theorem wf_u64 {n : Int} (h : (Lit.int .u64 n).wf = true) : 0 ≤ n ∧ n ≤ 18446744073709551615 := by
  simp only [Lit.wf, Bool.and_eq_true, decide_eq_true_eq] at h; exact h
theorem wf_u8 {n : Int} (h : (Lit.int .u8 n).wf = true) : 0 ≤ n ∧ n ≤ 255 := by
  simp only [Lit.wf, Bool.and_eq_true, decide_eq_true_eq] at h; exact h
end

/-- From some number of rounds on, this is the answer. -/
def Evt {α : Type} (g : Nat → Option α) (r : α) : Prop := ∃ K, ∀ k, K ≤ k → g k = some r
section
variable {α β : Type} {g : Nat → Option α} {r : α}
theorem Evt.succ (h : Evt (fun k => g (k + 1)) r) : Evt g r := by
  obtain ⟨K, h⟩ := h
  refine ⟨K + 1, fun k hk => ?_⟩
  obtain ⟨m, rfl⟩ : ∃ m, k = m + 1 := ⟨k - 1, by omega⟩
  exact h m (by omega)
theorem Evt.shift (h : Evt g r) : Evt (fun k => g (k + 1)) r := by
  obtain ⟨K, h⟩ := h
  exact ⟨K, fun k hk => h (k + 1) (by omega)⟩
theorem Evt.pure : Evt (fun _ => some r) r := ⟨0, fun _ _ => rfl⟩
theorem Evt.eq {r' : α} (h : r' = r) : Evt (fun _ => some r') r := h ▸ Evt.pure
theorem Evt.const {o : Option α} (h : o = some r) : Evt (fun _ => o) r := ⟨0, fun _ _ => h⟩
theorem Evt.bind {h : Nat → α → Option β} {s : β} (hg : Evt g r) (hh : Evt (fun k => h k r) s) : Evt (fun k => (g k).bind (h k)) s := by
  obtain ⟨K, h1⟩ := hg
  obtain ⟨L, h2⟩ := hh
  exact ⟨K + L, fun k hk => by show (g k).bind (h k) = _; rw [h1 k (by omega)]; exact h2 k (by omega)⟩
theorem Evt.at {xs : List β} {i : Int} {y : β} {h : Nat → β → Option α} (hi : at_ xs i = some y) (hh : Evt (fun k => h k y) r) : Evt (fun k => (at_ xs i).bind (h k)) r := Evt.bind (Evt.const hi) hh
theorem Evt.need {p : Prop} [Decidable p] (hp : p) (h : Evt g r) : Evt (fun k => Am.need p (g k)) r := by
  obtain ⟨K, h⟩ := h
  exact ⟨K, fun k hk => by show Am.need p (g k) = _; rw [need_pos hp]; exact h k hk⟩
theorem Evt.t {b : Bool} {g' : Nat → Option α} (hb : b = true) (h : Evt g r) : Evt (fun k => if b = true then g k else g' k) r := by subst hb; exact h
theorem Evt.f {b : Bool} {g' : Nat → Option α} (hb : b = false) (h : Evt g' r) : Evt (fun k => if b = true then g k else g' k) r := by subst hb; exact h
theorem Evt.congr {g' : Nat → Option α} (hg : ∀ k, g k = g' k) (h : Evt g' r) : Evt g r := by
  obtain ⟨K, h⟩ := h
  exact ⟨K, fun k hk => by rw [hg]; exact h k hk⟩
theorem Evt.ex (h : Evt g r) : ∃ k, g k = some r := by obtain ⟨K, h⟩ := h; exact ⟨K, h K (Nat.le_refl _)⟩
theorem Evt.cast {r' : α} (h : Evt g r) (e : r = r') : Evt g r' := e ▸ h
end
theorem at_nat {α : Type} {xs : List α} {i : Nat} (h : i < xs.length) : at_ xs (i : Int) = some xs[i] := by
  unfold at_
  rw [if_pos (by omega), Int.toNat_natCast, List.getElem?_eq_getElem h]
theorem wrap64 {n : Int} (h : -9223372036854775808 ≤ n ∧ n ≤ 9223372036854775807) : IntKind.i64.wrap n = n := by
  simp [IntKind.wrap, IntKind.signed, IntKind.bits]; omega
theorem wrapU64 {n : Int} (h : 0 ≤ n ∧ n ≤ 18446744073709551615) : IntKind.u64.wrap n = n := by
  simp [IntKind.wrap, IntKind.signed, IntKind.bits]; omega
theorem wrapU8 {n : Int} (h : 0 ≤ n ∧ n ≤ 255) : IntKind.u8.wrap n = n := by
  simp [IntKind.wrap, IntKind.signed, IntKind.bits]; omega
end Go.Am
