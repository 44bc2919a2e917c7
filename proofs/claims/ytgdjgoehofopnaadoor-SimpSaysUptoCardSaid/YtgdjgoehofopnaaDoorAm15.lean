/- Calls; a row of operations; code. -/
import Derived.Test.YtgdjgoehofopnaaDoorAm14
set_option linter.unusedSimpArgs false
set_option linter.unusedVariables false
set_option linter.unnecessarySimpa false
namespace Go.Am
open Go Go.Lib
section
variable {P : Program} {N : Nat} {V : Nat → Bool} {c0 c : Cx} {σ σ' : St} {a : Act} {w : World} {o : Oper}

def ownBlk (d : D) (v : Value) : Option Nat := match d with | .own _ _ => v.ownBlock | _ => none

/-- What a callee sees of the owners: the objects, and what is handed to it. -/
def Cx.inner (c : Cx) (g : Option Nat) (i : Nat) : Cx :=
  { c with O := fun B => if g = some B then some (.slot i) else match c.O B with | some (.ob b) => some (.ob b) | some (.oc b k) => some (.oc b k) | _ => none }

theorem Cx.inner_le (c : Cx) (g : Option Nat) (i : Nat) : Le c (c.inner g i) := ⟨Nat.le_refl _, fun _ => Nat.le_refl _, fun _ _ _ _ h => h, fun _ C e fr h => ⟨C, e, fr, h, Nat.le_refl _⟩, fun _ _ h => h⟩

/-- What the caller sees of the owners behind the call. -/
def Cx.outer (c c1 c2 : Cx) (g : Option Nat) (n : Nat) : Cx :=
  { c2 with O := fun B => if g = some B then some (.slot n) else match c2.O B with
    | some (.ob b) => some (.ob b)
    | some (.oc b k) => some (.oc b k)
    | _ => if B < c.w.heap.size ∧ c1.O B = none then c.O B else none }

/-- Behind a call: the caller's own blocks are as they were. -/
theorem call_back (h : Sim P N V c0 c σ a w) {c2 : Cx} {gi go : Option Nat} {i n : Nat} {H' : List (Option (List D))} (hgi : ∀ B, gi = some B → ∃ m, c.O B = some (.slot m) ∧ ∀ e xs, σ.env m ≠ .d (.own e xs))
    (hf : Fr (c.inner gi i) c2) (hw2 : Wf c2) (hH : HRel P c2 H') (hgo : ∀ B, go = some B → c2.O B = some (.slot 0)) :
    Sim P N V c0 (c.outer (c.inner gi i) c2 go n) { σ with H := H' } a c2.w ∧ Le c2 (c.outer (c.inner gi i) c2 go n) := by
  have hw := h.hw
  subst hw
  have hle2 : Le c2 (c.outer (c.inner gi i) c2 go n) := ⟨Nat.le_refl _, fun _ => Nat.le_refl _, fun _ _ _ _ h => h, fun _ C e fr h => ⟨C, e, fr, h, Nat.le_refl _⟩, fun _ _ h => h⟩
  have hle : Le c (c.outer (c.inner gi i) c2 go n) := ((c.inner_le gi i).trans hf.le).trans hle2
  -- a block that the callee does not see
  have keep : ∀ B, B < c.w.heap.size → (c.inner gi i).O B = none → c2.w.heap[B]? = c.w.heap[B]? ∧ c2.F B = c.F B ∧ (c.outer (c.inner gi i) c2 go n).O B = c.O B := by
    intro B hB hO
    obtain ⟨k1, k2, k3⟩ := hf.keep B hB hO
    refine ⟨k1, k2, ?_⟩
    show (if go = some B then _ else _) = _
    rw [if_neg (by intro e; rw [hgo B e] at k3; cases k3)]
    simp only [k3]
    rw [if_pos ⟨hB, hO⟩]
  have hkeep : Keeps c (c.outer (c.inner gi i) c2 go n) (fun x => (∃ b, x = .ob b) ∨ (∃ b k, x = .oc b k) ∨ ∃ m, x = .slot m ∧ ∀ e xs, σ.env m ≠ .d (.own e xs)) := by
    intro B ow hO hx
    refine keep B (h.own_lt hO) ?_
    show (if gi = some B then _ else _) = _
    rw [if_neg]
    · rw [hO]
      cases ow with
      | ob b => exact absurd (.inl ⟨b, rfl⟩) hx
      | oc b k => exact absurd (.inr (.inl ⟨b, k, rfl⟩)) hx
      | slot m => rfl
      | var m => rfl
      | vc m k => rfl
    · intro e
      obtain ⟨m, hm, hne⟩ := hgi B e
      rw [hm] at hO
      injection hO with hO
      exact hx (.inr (.inr ⟨m, hO.symm, hne⟩))
  refine ⟨⟨rfl, fun B hB => ?_, h.fr.trans ⟨hf.os, hf.tape, hf.output, hle, fun B hB hO => ?_⟩, h.size, h.out, h.vars, h.locs, fun m => ?_, ⟨hH.1, fun b cs hb => ?_⟩, h.dfr⟩, hle2⟩
  · have hB' : c2.w.heap.size ≤ B := hB
    obtain ⟨k1, k2⟩ := hw2 B hB'
    refine ⟨?_, k2⟩
    show (if go = some B then _ else _) = _
    rw [if_neg (by intro e; rw [hgo B e] at k1; cases k1)]
    simp only [k1]
    have : c.w.heap.size ≤ c2.w.heap.size := hf.le.size
    rw [if_neg (by omega)]
  · have hO' : (c.inner gi i).O B = none := by
      show (if gi = some B then _ else _) = _
      rw [if_neg]
      · rw [hO]
      · intro e
        obtain ⟨m, hm, _⟩ := hgi B e
        rw [hm] at hO; cases hO
    obtain ⟨k1, k2, k3⟩ := keep B hB hO'
    exact ⟨k1, k2, k3.trans hO⟩
  · have hs := h.slots m
    cases he : σ.env m with
    | und => trivial
    | no => rw [he] at hs; exact hs
    | d x =>
      rw [he] at hs
      show CellRel P _ (.slot m) x _
      by_cases hx : ∃ e xs, x = .own e xs
      · obtain ⟨e, xs, rfl⟩ := hx
        refine CellRel.keeps hle hkeep ?_ (show CellRel P c (.slot m) _ _ from hs)
        rintro (⟨b, e'⟩ | ⟨b, k, e'⟩ | ⟨m', e', hne⟩)
        · cases e'
        · cases e'
        · cases e'
          exact hne _ _ he
      · have hr : Rep c.w c.F c.j x (tmOf a m) := by
          have hs' : CellRel P c (.slot m) x (tmOf a m) := hs
          unfold CellRel at hs'
          split at hs'
          · exact absurd ⟨_, _, rfl⟩ hx
          · exact hs'
        exact CellRel.of_rep (hr.le hle)
    | var cs =>
      rw [he] at hs
      obtain ⟨B, q1, q2⟩ := hs
      exact ⟨B, q1, q2.keeps hle hkeep (by simp) (by simp)⟩
    | loc t off =>
      rw [he] at hs
      exact hs
  · obtain ⟨B, q1, q2⟩ := hH.2 b cs hb
    refine ⟨B, q1, q2.le hle2 fun g hg => ⟨rfl, rfl, ?_⟩⟩
    show (if go = some g then _ else _) = _
    rw [if_neg]
    · rcases hg with hg | ⟨k, hg⟩ <;> simp only [hg]
    · intro e
      rw [hgo g e] at hg
      rcases hg with hg | ⟨k, hg⟩ <;> cases hg

theorem gives_spec : ∀ {as : List AO} {ds : List D}, σ.gives as = some ds → ds.length = as.length ∧ ∀ (i : Nat) (ao : AO) (d : D), as[i]? = some ao → ds[i]? = some d → σ.give ao = some d
  | [], ds, h => by simp [St.gives] at h; subst h; simp
  | x :: as, ds, h => by
    simp only [St.gives] at h
    split at h
    · rename_i d ds' h1 h2
      injection h with h
      subst h
      obtain ⟨k1, k2⟩ := gives_spec h2
      refine ⟨by simp [k1], fun i ao d' ha hd => ?_⟩
      cases i with
      | zero => simp at ha hd; subst ha; subst hd; exact h1
      | succ i => simp at ha hd; exact k2 i ao d' ha hd
    · cases h

theorem oprs_spec : ∀ {as : List AO} {xs : List Operand}, oprs as xs = true → as.length = xs.length ∧ ∀ (i : Nat) (ao : AO) (x : Operand), as[i]? = some ao → xs[i]? = some x → opr ao x = true
  | [], [], _ => ⟨rfl, by simp⟩
  | a :: as, x :: xs, h => by
    rw [oprs, Bool.and_eq_true] at h
    obtain ⟨k1, k2⟩ := oprs_spec h.2
    refine ⟨by simp [k1], fun i ao y ha hy => ?_⟩
    cases i with
    | zero => simp at ha hy; subst ha; subst hy; exact h.1
    | succ i => simp at ha hy; exact k2 i ao y ha hy
  | [], _ :: _, h => by simp [oprs] at h
  | _ :: _, [], h => by simp [oprs] at h

theorem xs1_none : ∀ {as : List AO}, as.filter isX = [] → ∀ σ : St, σ.spends as = σ
  | [], _, σ => rfl
  | a :: as, h, σ => by
    rw [List.filter_cons] at h
    cases a with
    | t n => exact xs1_none h σ
    | x n => cases h
    | k d => exact xs1_none h σ

theorem xs1_one : ∀ {as : List AO} {n : Nat}, as.filter isX = [.x n] → ∀ σ : St, σ.spends as = σ.spend (.x n)
  | [], n, h, _ => by cases h
  | a :: as, n, h, σ => by
    rw [List.filter_cons] at h
    cases a with
    | t m => exact xs1_one h σ
    | x m =>
      simp only [isX, if_true] at h
      injection h with h1 h2
      injection h1 with h1
      subst h1
      show (σ.spend (.x m)).spends as = _
      exact xs1_none h2 _
    | k d => exact xs1_one h σ

/-- A call by its contract. -/
theorem call_sound (h : Sim P N V c0 c σ a w) {f : Nat} {as : List AO} {xs : List Operand} {ds cs : List D} {vs : Array Value} {r : D} {H' : List (Option (List D))} (n : Nat) (hx : xs1 as = true) (ho : oprs as xs = true) (hg : σ.gives as = some ds)
    (hev : Ev P f (ds ++ cs) σ.H r H') (hvs : vs.toList = xs.map a.eval ++ vs.toList.drop xs.length) (hcs : ∀ (i : Nat) (d : D) (v : Value), cs[i]? = some d → (vs.toList.drop xs.length)[i]? = some v → Rep c.w c.F c.j d v) (hcl : cs.length = (vs.toList.drop xs.length).length) :
    Calls P f vs w fun e w' => ∃ v c', e = .returned v ∧ Sim P N V c0 c' { σ.spends as with H := H' } a w' ∧ CellRel P c' (.slot n) r v := by
  have hw := h.hw
  subst hw
  obtain ⟨g1, g2⟩ := gives_spec hg
  obtain ⟨o1, o2⟩ := oprs_spec ho
  have hsz : vs.size = ds.length + cs.length := by
    have := congrArg List.length hvs
    simp only [List.length_append, List.length_map, Array.length_toList] at this
    rw [hcl]
    omega
  -- values of the arguments
  have hval : ∀ (i : Nat) (d : D) (v : Value), (ds ++ cs)[i]? = some d → vs[i]? = some v → (∃ ao x, as[i]? = some ao ∧ xs[i]? = some x ∧ ds[i]? = some d ∧ v = a.eval x) ∨ Rep c.w c.F c.j d v := by
    intro i d v hd hv
    have hv' : (xs.map a.eval ++ vs.toList.drop xs.length)[i]? = some v := by rw [← hvs]; simpa using hv
    by_cases hi : i < ds.length
    · rw [List.getElem?_append_left hi] at hd
      rw [List.getElem?_append_left (by simp; omega), List.getElem?_map, Option.map_eq_some_iff] at hv'
      obtain ⟨x, hx, rfl⟩ := hv'
      have : i < as.length := by omega
      exact .inl ⟨as[i], x, List.getElem?_eq_getElem this, hx, hd, rfl⟩
    · rw [List.getElem?_append_right (by omega)] at hd
      rw [List.getElem?_append_right (by simp; omega)] at hv'
      simp only [List.length_map] at hv'
      rw [← o1, ← g1] at hv'
      exact .inr (hcs _ d v hd (by rw [← o1, ← g1]; exact hv'))
  -- behind the call
  have fin : ∀ (c1 : Cx) (σ1 : St) (gi : Option Nat) (i : Nat), Sim P N V c0 c1 σ1 a c.w → σ1.H = σ.H → σ1 = σ.spends as → (∀ B, gi = some B → ∃ m, c1.O B = some (.slot m) ∧ ∀ e xs, σ1.env m ≠ .d (.own e xs)) → ARel P (c1.inner gi i) (ds ++ cs) vs →
      Calls P f vs c.w fun e w' => ∃ v c', e = .returned v ∧ Sim P N V c0 c' { σ.spends as with H := H' } a w' ∧ CellRel P c' (.slot n) r v := by
    intro c1 σ1 gi i h1 hH1 hσ1 hgi har
    have hw1 := h1.hw
    have hwf : Wf (c1.inner gi i) := by
      intro B hB
      have hB' : c1.w.heap.size ≤ B := hB
      obtain ⟨k1, k2⟩ := h1.wf B hB'
      refine ⟨?_, k2⟩
      show (if gi = some B then _ else _) = _
      rw [if_neg (by intro e; obtain ⟨m, hm, _⟩ := hgi B e; rw [hm] at k1; cases k1), k1]
    have hHr : HRel P (c1.inner gi i) σ.H := by
      have := h1.H
      rw [hH1] at this
      refine ⟨this.1, fun b cs' hb => ?_⟩
      obtain ⟨B, q1, q2⟩ := this.2 b cs' hb
      refine ⟨B, q1, q2.le (c1.inner_le gi i) fun g hg => ⟨rfl, rfl, ?_⟩⟩
      show (if gi = some g then _ else _) = _
      rw [if_neg]
      · rcases hg with hg | ⟨k, hg⟩ <;> simp only [hg]
      · intro e
        obtain ⟨m, hm, _⟩ := hgi g e
        rw [hm] at hg
        rcases hg with hg | ⟨k, hg⟩ <;> cases hg
    have hcall := hev.go (c1.inner gi i) vs hwf hHr har
    rw [show (c1.inner gi i).w = c.w from hw1] at hcall
    refine hcall.mono fun e w' hr => ?_
    obtain ⟨v, c2, he, hw2, hf2, hwf2, hH2, hr2⟩ := hr
    subst hw2
    have hgo : ∀ B, ownBlk r v = some B → c2.O B = some (.slot 0) := by
      intro B hB
      cases r <;> simp only [ownBlk] at hB <;> try (cases hB; done)
      exact (OwnRel.block (show OwnRel P c2 (.slot 0) _ _ v from hr2) B hB).1
    obtain ⟨k1, k2⟩ := call_back h1 (n := n) hgi hf2 hwf2 hH2 hgo
    refine ⟨v, c1.outer (c1.inner gi i) c2 (ownBlk r v) n, he, ?_, ?_⟩
    · rw [← hσ1]; exact k1
    · cases hr' : r with
      | own e' ys =>
        rw [hr'] at hr2
        have hr2' : OwnRel P c2 (.slot 0) e' ys v := hr2
        rcases hr2' with hn | ⟨sz, us, p1, p2, p3, p4, p5, p6, p7⟩
        · exact .inl hn
        · refine .inr ⟨sz, us, p1, p2, p3, p4, p5, fun i d hd => ?_, fun g hg => ⟨(p7 g hg).1, ?_⟩⟩
          · obtain ⟨u, hu, hru⟩ := p6 i d hd
            exact ⟨u, hu, hru.le k2⟩
          · show (if ownBlk (D.own e' ys) v = some g then _ else _) = _
            rw [if_pos (by exact hg)]
      | _ =>
        rw [hr'] at hr2
        exact CellRel.of_rep (P := P) (o := .slot n) (Rep.le k2 hr2)
  -- is a right handed on?
  have hlen : (as.filter isX).length ≤ 1 := by simpa [xs1] using hx
  match hfl : (as.filter isX), hlen with
  | [], _ =>
    have hno : ∀ ao ∈ as, ∀ m, ao ≠ .x m := by
      rintro ao hao m rfl
      have : AO.x m ∈ (as.filter isX) := List.mem_filter.2 ⟨hao, rfl⟩
      rw [hfl] at this
      cases this
    refine fin c σ none 0 h rfl (xs1_none hfl σ).symm (by simp) ⟨by rw [List.length_append]; omega, fun i d v hd hv => CellRel.of_rep ?_⟩
    have hr : Rep c.w c.F c.j d v := by
      rcases hval i d v hd hv with ⟨ao, x, ha, hx, hdi, rfl⟩ | hr
      · rcases h.give (o2 i ao x ha hx) (g2 i ao d ha hdi) with ⟨m, rfl, _⟩ | ⟨_, hr⟩
        · exact absurd rfl (hno _ (List.mem_of_getElem? ha) m)
        · exact hr
      · exact hr
    exact hr.le (c.inner_le none 0)
  | [y], _ =>
    have hyx : y ∈ (as.filter isX) := by rw [hfl]; exact List.mem_cons_self
    obtain ⟨hy1, hy2⟩ := List.mem_filter.1 hyx
    cases y with
    | t m => cases hy2
    | k d => cases hy2
    | x m =>
      obtain ⟨i0, hi0⟩ := List.mem_iff_getElem?.1 hy1
      have huniq : ∀ (i m' : Nat), as[i]? = some (AO.x m') → i = i0 ∧ m' = m := by
        intro i m' hi
        have hm' : AO.x m' ∈ (as.filter isX) := List.mem_filter.2 ⟨List.mem_of_getElem? hi, rfl⟩
        rw [hfl] at hm'
        simp at hm'
        subst hm'
        refine ⟨?_, rfl⟩
        -- two places would make two entries
        by_cases hne : i = i0
        · exact hne
        · exfalso
          have hcount : ∀ (l : List AO) (p q : Nat), p ≠ q → l[p]? = some (AO.x m') → l[q]? = some (AO.x m') → 2 ≤ (l.filter isX).length := by
            intro l
            induction l with
            | nil => intro p q _ hp; simp at hp
            | cons z l ih =>
              intro p q hpq hp hq
              rw [List.filter_cons]
              have hone : ∀ (p : Nat), l[p]? = some (AO.x m') → 1 ≤ (l.filter isX).length := by
                intro p hp
                exact List.length_pos_of_mem (List.mem_filter.2 ⟨List.mem_of_getElem? hp, rfl⟩)
              cases p with
              | zero =>
                cases q with
                | zero => exact absurd rfl hpq
                | succ q =>
                  simp at hp hq
                  subst hp
                  have := hone q hq
                  simp only [isX, if_true, List.length_cons]
                  omega
              | succ p =>
                cases q with
                | zero =>
                  simp at hp hq
                  subst hq
                  have := hone p hp
                  simp only [isX, if_true, List.length_cons]
                  omega
                | succ q =>
                  simp at hp hq
                  have := ih p q (by omega) hp hq
                  split
                  · simp only [List.length_cons]; omega
                  · exact this
          have := hcount as i i0 hne hi hi0
          rw [hfl] at this
          simp at this
      have hi0x : i0 < xs.length := by rw [← o1]; exact (List.getElem?_eq_some_iff.1 hi0).1
      have hi0d : i0 < ds.length := by rw [g1]; exact (List.getElem?_eq_some_iff.1 hi0).1
      have hgive := g2 i0 _ _ hi0 (List.getElem?_eq_getElem hi0d)
      have hopr := o2 i0 _ _ hi0 (List.getElem?_eq_getElem hi0x)
      have hothers : ∀ (i : Nat) (d : D) (v : Value), i ≠ i0 → (ds ++ cs)[i]? = some d → vs[i]? = some v → Rep c.w c.F c.j d v := by
        intro i d v hne hd hv
        rcases hval i d v hd hv with ⟨ao, x, ha, hx, hdi, rfl⟩ | hr
        · rcases h.give (o2 i ao x ha hx) (g2 i ao d ha hdi) with ⟨m', rfl, _⟩ | ⟨_, hr⟩
          · exact absurd (huniq i m' ha).1 hne
          · exact hr
        · exact hr
      rcases h.give hopr hgive with ⟨m', hm', he, hcr⟩ | ⟨hne, _⟩
      · cases hm'
        by_cases hown : ∃ e ys, ds[i0] = .own e ys
        · obtain ⟨e, ys, hown⟩ := hown
          rw [hown] at he hcr
          obtain ⟨t1, t2⟩ := h.take he (.slot m)
          have hsp : σ.spend (.x m) = { σ with env := upd σ.env m (.d (.list ys)) } := by simp only [St.spend, he]
          have hev0 : a.eval (xs[i0]) = tmOf a m := opr_tmp (.inr hopr) a
          refine fin (c.give (tmOf a m) (.slot m)) _ (tmOf a m).ownBlock i0 t1 rfl (by rw [xs1_one hfl σ, hsp]) (fun B hB => ⟨m, if_pos hB, fun e' ys' => ?_⟩) ⟨by rw [List.length_append]; omega, fun i d v hd hv => ?_⟩
          · show upd σ.env m (.d (.list ys)) m ≠ _
            rw [upd, if_pos rfl]
            simp
          · by_cases hi : i = i0
            · subst hi
              rw [List.getElem?_append_left hi0d, List.getElem?_eq_getElem hi0d] at hd
              injection hd with hd
              rw [hown] at hd
              subst hd
              have hv' : v = tmOf a m := by
                have : (xs.map a.eval ++ vs.toList.drop xs.length)[i]? = some v := by rw [← hvs]; simpa using hv
                rw [List.getElem?_append_left (by simpa using hi0x), List.getElem?_map, List.getElem?_eq_getElem hi0x] at this
                injection this with this
                rw [← this]
                exact hev0
              subst hv'
              show OwnRel P _ (.slot i) e ys _
              rcases t2 with hn | ⟨sz, us, p1, p2, p3, p4, p5, p6, p7⟩
              · exact .inl hn
              · refine .inr ⟨sz, us, p1, p2, p3, p4, p5, fun k d hd => ?_, fun g hg => ⟨(p7 g hg).1, ?_⟩⟩
                · obtain ⟨u, hu, hru⟩ := p6 k d hd
                  exact ⟨u, hu, hru.le ((c.give (tmOf a m) (.slot m)).inner_le _ _)⟩
                · show (if (tmOf a m).ownBlock = some g then _ else _) = _
                  rw [if_pos hg]
            · exact CellRel.of_rep ((hothers i d v hi hd hv).le ((c.give_le _ _).trans ((c.give (tmOf a m) (.slot m)).inner_le _ _)))
        · have hs : σ.spend (.x m) = σ := by
            simp only [St.spend, he]
            split
            · rename_i e' ys' hd'
              injection hd' with hd'
              exact absurd ⟨_, _, hd'⟩ hown
            · rfl
          refine fin c σ none 0 h rfl (by rw [xs1_one hfl σ, hs]) (by simp) ⟨by rw [List.length_append]; omega, fun i d v hd hv => CellRel.of_rep ?_⟩
          have hr : Rep c.w c.F c.j d v := by
            by_cases hi : i = i0
            · subst hi
              rw [List.getElem?_append_left hi0d, List.getElem?_eq_getElem hi0d] at hd
              injection hd with hd
              subst hd
              have hv' : v = a.eval (xs[i]) := by
                have : (xs.map a.eval ++ vs.toList.drop xs.length)[i]? = some v := by rw [← hvs]; simpa using hv
                rw [List.getElem?_append_left (by simpa using hi0x), List.getElem?_map, List.getElem?_eq_getElem hi0x] at this
                injection this with this
                exact this.symm
              rw [hv']
              unfold CellRel at hcr
              split at hcr
              · rename_i e' ys' hd'
                exact absurd ⟨e', ys', hd'⟩ hown
              · exact hcr
            · exact hothers i d v hi hd hv
          exact hr.le (c.inner_le none 0)
      · exact absurd rfl (hne m)

end
end Go.Am
