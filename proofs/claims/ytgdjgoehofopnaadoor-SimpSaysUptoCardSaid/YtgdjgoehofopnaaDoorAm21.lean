/- Results; a function's contract from its body; contracts in which no object plays. -/
import Derived.Test.YtgdjgoehofopnaaDoorAm20
set_option linter.unusedSimpArgs false
set_option linter.unusedVariables false
set_option linter.unnecessarySimpa false
namespace Go.Am
open Go Go.Lib

inductive ARes where
  | t (n : Nat)
  | x (n : Nat)
  | c (sz : Option Nat) (n : Nat)
  deriving Inhabited

/-- A function: its temporaries, which of them hold variables, its code, its results. -/
structure AF where
  N : Nat
  V : List Nat
  body : AC
  res : List ARes

def St.res1 (σ : St) : ARes → Option D
  | .t n => match σ.env n with | .d d => some d.copy | _ => none
  | .x n => match σ.env n with | .d d => some d | _ => none
  | .c sz n => match σ.lv n with
    | some l => match σ.rd l (sz.getD 1) with
      | some cs => ofCells sz cs
      | none => none
    | none => none
def St.resL (σ : St) : List ARes → Option (List D)
  | [] => some []
  | r :: rs => match σ.res1 r, σ.resL rs with | some d, some ds => some (d :: ds) | _, _ => none
def St.results (σ : St) : List ARes → Option D
  | [r] => σ.res1 r
  | rs => match σ.resL rs with | some ds => some (.tup ds) | none => none

def chkR (P : Program) (one : Bool) : ARes → ResultVar → Bool
  | .t n, .tmp m => n == m
  | .x n, .tmp m => one && n == m
  | .c sz n, .cell m t => n == m && szOf P t == some sz
  | _, _ => false
def chkRs (P : Program) (one : Bool) : List ARes → List ResultVar → Bool
  | [], [] => true
  | r :: rs, v :: vs => chkR P one r v && chkRs P one rs vs
  | _, _ => false

def AF.isV (A : AF) (n : Nat) : Bool := A.V.contains n

def chkF (P : Program) (A : AF) (fn : Func) : Bool :=
  fn.name != "runtime.NumGoroutine" && A.N == fn.ntmps && (match fn.body with | some c => chkC P A.N A.isV A.body c | none => false) && chkRs P (A.res.length == 1) A.res fn.results.toList

def St.start (ds : List D) (H : List (Option (List D))) : St := { env := fun n => match ds[n]? with | some d => .d d | none => .und, H := H }

def retQ (rs : List ARes) (r : D) (H' : List (Option (List D))) (e : Ex) (σ : St) : Prop :=
  match e with
  | .exit _ => False
  | _ => ∃ r0, σ.results rs = some r0 ∧ (r0 = r ∨ r0.copy = r) ∧ σ.H = H'

section
variable {P : Program} {N : Nat} {V : Nat → Bool} {c0 c : Cx} {σ σ' : St} {a : Act} {w : World} {o : Oper}

def resOne (tmps : Array Value) : ResultVar → Sem Value
  | .tmp t => pure (tmps.getD t undef)
  | .cell a t => do loadVar t (← asAddr (tmps.getD a undef))

theorem results_eq (fn : Func) (tmps : Array Value) : results fn tmps = (do
    let vs ← fn.results.mapM (resOne tmps)
    pure (if h : vs.size = 1 then vs[0] else .tuple vs)) := rfl

theorem res1_run (h : Sim P N V c0 c σ a w) {r : ARes} {v : ResultVar} {d : D} (hc : chkR P false r v = true) (hr : σ.res1 r = some d) :
    ∃ u, (resOne a.tmps v).run P w = .ok u w ∧ Rep c.w c.F c.j d u := by
  cases r with
  | t n =>
    cases v with
    | tmp m =>
      have : n = m := by simpa [chkR] using hc
      subst this
      simp only [St.res1] at hr
      split at hr
      · rename_i d' he
        injection hr with hr
        subst hr
        have hs := h.slots n
        rw [he] at hs
        exact ⟨_, rfl, CellRel.copy hs⟩
      · cases hr
    | cell m t => simp [chkR] at hc
  | x n => cases v <;> simp [chkR] at hc
  | c sz n =>
    cases v with
    | tmp m => simp [chkR] at hc
    | cell m t =>
      simp only [chkR, Bool.and_eq_true, beq_iff_eq] at hc
      obtain ⟨rfl, hsz⟩ := hc
      simp only [St.res1] at hr
      split at hr
      · rename_i l hl
        split at hr
        · rename_i cs hrd
          obtain ⟨B, off, hv, hlen, hcells⟩ := h.rd (h.lv hl).1 hrd
          have hw := h.hw
          rw [hw] at hcells
          obtain ⟨v, k1, k2⟩ := run_loadVar (P := P) hsz hlen hcells hr
          refine ⟨v, ?_, by rw [hw]; exact k2⟩
          simp only [resOne, Sem.run_bind]
          rw [show a.tmps.getD n undef = .pointer (some ⟨B, off, none⟩) from hv]
          simp [asAddr, k1]
        · cases hr
      · cases hr

theorem resL_run (h : Sim P N V c0 c σ a w) : ∀ {rs : List ARes} {vs : List ResultVar} {ds : List D}, chkRs P false rs vs = true → σ.resL rs = some ds →
    ∃ us : List Value, (vs.mapM (resOne a.tmps)).run P w = .ok us w ∧ ds.length = us.length ∧ us.length = vs.length ∧ ∀ (i : Nat) (d : D) (u : Value), ds[i]? = some d → us[i]? = some u → Rep c.w c.F c.j d u
  | [], [], ds, _, hr => by
    simp only [St.resL, Option.some.injEq] at hr
    subst hr
    exact ⟨[], by simp, rfl, rfl, by simp⟩
  | r :: rs, v :: vs, ds, hc, hr => by
    rw [chkRs, Bool.and_eq_true] at hc
    simp only [St.resL] at hr
    split at hr
    · rename_i d ds' h1 h2
      injection hr with hr
      subst hr
      obtain ⟨u, k1, k2⟩ := res1_run h hc.1 h1
      obtain ⟨us, k3, k4, k5, k6⟩ := resL_run h hc.2 h2
      refine ⟨u :: us, by simp [k1, k3], by simp [k4], by simp [k5], fun i d u' hd hu => ?_⟩
      cases i with
      | zero => simp at hd hu; subst hd; subst hu; exact k2
      | succ i => exact k6 i d u' (by simpa using hd) (by simpa using hu)
    · cases hr
  | [], _ :: _, _, hc, _ => by simp [chkRs] at hc
  | _ :: _, [], _, hc, _ => by simp [chkRs] at hc

/-- Two temporaries' rights change places. -/
def Cx.swap (c : Cx) (n : Nat) : Cx := { c with O := fun B => if c.O B = some (.slot n) then some (.slot 0) else if c.O B = some (.slot 0) then some (.slot n) else c.O B }

theorem res_run (h : Sim P N V c0 c σ a w) {rs : List ARes} {fn : Func} {d : D} (hc : chkRs P (rs.length == 1) rs fn.results.toList = true) (hr : σ.results rs = some d) :
    ∃ u c', (results fn a.tmps).run P w = .ok u w ∧ c'.w = w ∧ Fr c c' ∧ Wf c' ∧ HRel P c' σ.H ∧ CellRel P c' (.slot 0) d u := by
  have hw := h.hw
  subst hw
  have many : chkRs P false rs fn.results.toList = true → rs.length ≠ 1 → σ.results rs = (match σ.resL rs with | some ds => some (.tup ds) | none => none) →
      ∃ u c', (results fn a.tmps).run P c.w = .ok u c.w ∧ c'.w = c.w ∧ Fr c c' ∧ Wf c' ∧ HRel P c' σ.H ∧ CellRel P c' (.slot 0) d u := by
    intro hc hne he
    rw [he] at hr
    split at hr
    · rename_i ds hds
      injection hr with hr
      subst hr
      obtain ⟨us, k1, k2, k3, k4⟩ := resL_run h hc hds
      have hlen : us.length ≠ 1 := by
        have : ∀ {rs : List ARes} {ds : List D}, σ.resL rs = some ds → ds.length = rs.length := by
          intro rs
          induction rs with
          | nil => intro ds hds; simp only [St.resL, Option.some.injEq] at hds; subst hds; rfl
          | cons r rs ih =>
            intro ds hds
            simp only [St.resL] at hds
            split at hds
            · rename_i h1 h2; injection hds with hds; subst hds; simp [ih h2]
            · cases hds
        rw [← k2, this hds]; exact hne
      refine ⟨.tuple us.toArray, c, ?_, rfl, .refl c, h.wf, h.H, ?_⟩
      · rw [results_eq]
        rw [Array.mapM_eq_mapM_toList]
        simp [k1, hlen]
      · exact .tup ds us.toArray (by simpa using k2) (fun i d u hd hu => k4 i d u hd (by simpa using hu))
    · cases hr
  match rs, hc, hr, many with
  | [], hc, hr, many => exact many hc (by simp) rfl
  | r :: r' :: rs, hc, hr, many => exact many (by simpa using hc) (by simp) rfl
  | [r], hc, hr, _ =>
    have hlen : fn.results.toList.length = 1 := by
      match hfr : fn.results.toList with
      | [] => rw [hfr] at hc; simp [chkRs] at hc
      | [_] => rfl
      | v :: v' :: _ => rw [hfr] at hc; simp [chkRs] at hc
    match hfr : fn.results.toList, hlen with
    | [v], _ =>
      rw [hfr] at hc
      simp only [chkRs, Bool.and_true] at hc
      have hone : ∀ u, (resOne a.tmps v).run P c.w = .ok u c.w → (results fn a.tmps).run P c.w = .ok u c.w := by
        intro u hu
        rw [results_eq, Array.mapM_eq_mapM_toList, hfr]
        simp [hu]
      have plain : chkR P false r v = true → ∃ u c', (results fn a.tmps).run P c.w = .ok u c.w ∧ c'.w = c.w ∧ Fr c c' ∧ Wf c' ∧ HRel P c' σ.H ∧ CellRel P c' (.slot 0) d u := by
        intro hc
        obtain ⟨u, k1, k2⟩ := res1_run h hc hr
        exact ⟨u, c, hone u k1, rfl, .refl c, h.wf, h.H, CellRel.of_rep k2⟩
      cases r with
      | t n => exact plain (by cases v <;> simpa [chkR] using hc)
      | c sz n => exact plain (by cases v <;> simpa [chkR] using hc)
      | x n =>
        cases v with
        | cell m t => simp [chkR] at hc
        | tmp m =>
          have : n = m := by simpa [chkR] using hc
          subst this
          have hr : σ.res1 (.x n) = some d := hr
          simp only [St.res1] at hr
          split at hr
          · rename_i d' he
            injection hr with hr
            subst hr
            have hs := h.slots n
            rw [he] at hs
            have hsw : Le c (c.swap n) := ⟨Nat.le_refl _, fun _ => Nat.le_refl _, fun _ _ _ _ h => h, fun _ C e fr h => ⟨C, e, fr, h, Nat.le_refl _⟩, fun _ _ h => h⟩
            have hO : ∀ B ow, c.O B = some ow → (∀ m, ow ≠ .slot m) → (c.swap n).O B = some ow := by
              intro B ow h1 h2
              show (if c.O B = _ then _ else _) = _
              rw [if_neg (by rw [h1]; intro e; injection e with e; exact h2 _ e), if_neg (by rw [h1]; intro e; injection e with e; exact h2 _ e), h1]
            refine ⟨tmOf a n, c.swap n, hone _ rfl, rfl, ⟨rfl, rfl, rfl, hsw, fun B hB hO' => ⟨rfl, rfl, ?_⟩⟩, fun B hB => ?_, ⟨h.H.1, fun b cs hb => ?_⟩, ?_⟩
            · show (if c.O B = _ then _ else _) = _
              rw [hO']; simp
            · refine ⟨?_, (h.wf B hB).2⟩
              show (if c.O B = _ then _ else _) = _
              rw [(h.wf B hB).1]; simp
            · obtain ⟨B, h1, h2⟩ := h.H.2 b cs hb
              refine ⟨B, h1, ?_⟩
              exact h2.le hsw fun g hg => by
                rcases hg with hg | ⟨i, hg⟩
                · exact ⟨rfl, rfl, by rw [hg]; exact hO g _ hg (by simp)⟩
                · exact ⟨rfl, rfl, by rw [hg]; exact hO g _ hg (by simp)⟩
            · have hs : CellRel P c (.slot n) d' (tmOf a n) := hs
              unfold CellRel at hs ⊢
              split
              · rename_i e xs
                rcases hs with hs | ⟨sz, us, h1, h2, h3, h4, h5, h6, h7⟩
                · exact .inl hs
                refine .inr ⟨sz, us, h1, h2, h3, h4, h5, h6, fun g hg => ?_⟩
                obtain ⟨k1, k2⟩ := h7 g hg
                refine ⟨k1, ?_⟩
                show (if c.O g = _ then _ else _) = _
                rw [if_pos k2]
              · rename_i hne
                cases d' <;> first | exact hs | exact absurd rfl (hne _ _)
          · cases hr

/-- A function's contract from its body. -/
theorem ev_intro {f : Nat} {fn : Func} {ds : List D} {H H' : List (Option (List D))} {r : D} (A : AF) (hf : P.funcs[f]? = some fn) (hc : chkF P A fn = true) (hl : ds.length ≤ A.N)
    (h : wpc (Ev P) A.body (retQ A.res r H') (St.start ds H)) : Ev P f ds H r H' := by
  simp only [chkF, Bool.and_eq_true, beq_iff_eq] at hc
  obtain ⟨⟨⟨hname, hN⟩, hb⟩, hres⟩ := hc
  split at hb
  · rename_i code hcode
    refine ⟨?_, fun c vs hwf hH ha => ?_⟩
    · unfold funcOK
      rw [hf]
      simp [hcode] at hname ⊢
      exact hname
    · refine calls_of_wp hf hcode ?_
      have hsz : vs.size ≤ fn.ntmps := by rw [← ha.1, ← hN]; exact hl
      have hsim : Sim P A.N A.isV c c (St.start ds H) { tmps := vs ++ Array.replicate (fn.ntmps - vs.size) undef, defers := [] } c.w := by
        refine ⟨rfl, hwf, .refl c, by simp; omega, fun n hn => ?_, fun n cs hn => ?_, fun n t off hn => ?_, fun n => ?_, hH, rfl⟩
        · show (match ds[n]? with | some d => Slot.d d | none => Slot.und) = _
          rw [List.getElem?_eq_none (by omega)]
        · have hn' : (match ds[n]? with | some d => Slot.d d | none => Slot.und) = .var cs := hn
          split at hn' <;> cases hn'
        · have hn' : (match ds[n]? with | some d => Slot.d d | none => Slot.und) = .loc t off := hn
          split at hn' <;> cases hn'
        · show SlotRel P c _ n (match ds[n]? with | some d => Slot.d d | none => Slot.und) _
          split
          · rename_i d hd
            have hlt : n < vs.size := by
              rw [← ha.1]
              exact (List.getElem?_eq_some_iff.1 hd).1
            refine ha.2 n d _ hd ?_
            have : tmOf { tmps := vs ++ Array.replicate (fn.ntmps - vs.size) undef, defers := [] } n = vs[n] := by
              show (vs ++ Array.replicate (fn.ntmps - vs.size) undef).getD n undef = _
              rw [Array.getD_eq_getD_getElem?, Array.getElem?_append_left hlt, Array.getElem?_eq_getElem hlt]
              rfl
            rw [this]
            exact Array.getElem?_eq_getElem hlt
          · trivial
      refine wpc_sound hb hsim h fun e c' σ' a' w' h' hk => ?_
      have fin : (∃ r0, σ'.results A.res = some r0 ∧ (r0 = r ∨ r0.copy = r) ∧ σ'.H = H') → a'.defers = [] ∧ ∃ v, (results fn a'.tmps).run P w' = .ok v w' ∧
          ∃ v' c'', Ending.returned v = .returned v' ∧ c''.w = w' ∧ Fr c c'' ∧ Wf c'' ∧ HRel P c'' H' ∧ CellRel P c'' (.slot 0) r v' := by
        rintro ⟨r0, h1, h2, h3⟩
        obtain ⟨u, c'', k1, k2, k3, k4, k5, k6⟩ := res_run h' hres h1
        refine ⟨h'.dfr, u, k1, u, c'', rfl, k2, h'.fr.trans k3, k4, h3 ▸ k5, ?_⟩
        rcases h2 with h2 | h2
        · rw [← h2]; exact k6
        · rw [← h2]; exact CellRel.of_rep k6.copy
      cases e with
      | normal => exact fin hk
      | ret => exact fin hk
      | exit id => exact hk.elim
  · cases hb

/-- Where no object plays, others may stand by. -/
theorem Ev.any {f : Nat} {ds : List D} {r : D} {H0 : List (Option (List D))} (h : Ev P f ds [] r H0) (hds : ∀ d ∈ ds, d.closed = true) (hr : r.closed = true) (H : List (Option (List D))) : Ev P f ds H r H := by
  refine ⟨h.ok, fun c vs hwf hH ha => ?_⟩
  let c1 : Cx := { c with j := [], O := fun B => match c.O B with | some (.slot n) => some (.slot n) | _ => none }
  have cell : ∀ {k k' : Cx} {o : Owner} {d : D} {v : Value}, k'.w = k.w → k'.F = k.F → (∀ g, k.O g = some o → k'.O g = some o) → d.closed = true → CellRel P k o d v → CellRel P k' o d v := by
    intro k k' o d v hw hF hO hd hcr
    unfold CellRel at hcr ⊢
    split
    · rename_i e xs
      rcases hcr with hcr | ⟨sz, us, h1, h2, h3, h4, h5, h6, h7⟩
      · exact .inl hcr
      refine .inr ⟨sz, us, h1, h2, by rw [hw]; exact h3, h4, h5, fun i d hd => ?_, fun g hg => ?_⟩
      · obtain ⟨u, hu, hru⟩ := h6 i d hd
        obtain ⟨x, hx, hdx⟩ := flat_mem hd
        exact ⟨u, hu, by rw [hw, hF]; exact hru.closed (elem_cells_closed (h5 x hx) d hdx)⟩
      · obtain ⟨k1, k2⟩ := h7 g hg
        exact ⟨by rw [hF]; exact k1, hO g k2⟩
    · rename_i hne
      have : Rep k.w k.F k.j d v := by cases d <;> first | exact hcr | exact absurd rfl (hne _ _)
      rw [hw, hF]
      exact this.closed hd
  have hc1 : ∀ g n, c.O g = some (.slot n) → c1.O g = some (.slot n) := by
    intro g n hg
    show (match c.O g with | some (.slot n) => some (Owner.slot n) | _ => none) = _
    rw [hg]
  refine (h.go c1 vs (fun B hB => ⟨?_, (hwf B hB).2⟩) ⟨rfl, by simp⟩ ⟨ha.1, fun i d v hd hv => cell (k := c) rfl rfl (fun g hg => hc1 g i hg) (hds d (List.mem_of_getElem? hd)) (ha.2 i d v hd hv)⟩).mono ?_
  · show (match c.O B with | some (.slot n) => some (Owner.slot n) | _ => none) = _
    rw [(hwf B hB).1]
  rintro e w' ⟨v, c2, rfl, rfl, hf, hw2, hH2, hrv⟩
  let c3 : Cx := { c2 with j := c.j, O := fun B => if B < c.w.heap.size ∧ c1.O B = none then c.O B else match c2.O B with | some (.slot n) => some (.slot n) | _ => none }
  have hO1 : ∀ B, c.O B = none → c1.O B = none := by
    intro B hB
    show (match c.O B with | some (.slot n) => some (Owner.slot n) | _ => none) = _
    rw [hB]
  have hob : ∀ B ow, c.O B = some ow → (∀ n, ow ≠ .slot n) → c1.O B = none := by
    intro B ow hB hne
    show (match c.O B with | some (.slot n) => some (Owner.slot n) | _ => none) = _
    rw [hB]
    cases ow <;> first | rfl | exact absurd rfl (hne _)
  have hlt : ∀ B ow, c.O B = some ow → B < c.w.heap.size := by
    intro B ow hB
    rcases Nat.lt_or_ge B c.w.heap.size with hl | hl
    · exact hl
    · rw [(hwf B hl).1] at hB; cases hB
  have hle : Le c c3 := ⟨hf.le.size, hf.le.F, hf.le.cell, hf.le.blk, fun _ _ h => h⟩
  have keep : ∀ B, B < c.w.heap.size → c1.O B = none → c3.w.heap[B]? = c.w.heap[B]? ∧ c3.F B = c.F B ∧ c3.O B = c.O B := by
    intro B hB hO
    obtain ⟨k1, k2, k3⟩ := hf.keep B hB hO
    refine ⟨k1, k2, ?_⟩
    show (if B < c.w.heap.size ∧ c1.O B = none then c.O B else _) = _
    rw [if_pos ⟨hB, hO⟩]
  refine ⟨v, c3, rfl, rfl, ⟨hf.os, hf.tape, hf.output, hle, fun B hB hO => ?_⟩, fun B hB => ⟨?_, (hw2 B hB).2⟩, ⟨hH.1, fun b cs hb => ?_⟩, ?_⟩
  · obtain ⟨k1, k2, k3⟩ := keep B hB (hO1 B hO)
    exact ⟨k1, k2, k3.trans hO⟩
  · have h1 : c.w.heap.size ≤ c2.w.heap.size := hf.le.size
    have hB' : c2.w.heap.size ≤ B := hB
    show (if B < c.w.heap.size ∧ c1.O B = none then c.O B else match c2.O B with | some (.slot n) => some (.slot n) | _ => none) = _
    rw [if_neg (by omega), (hw2 B hB).1]
  · obtain ⟨B, h1, h2⟩ := hH.2 b cs hb
    refine ⟨B, h1, h2.le hle fun g hg => ?_⟩
    rcases hg with hg | ⟨i, hg⟩
    · exact keep g (hlt g _ hg) (hob g _ hg (by simp))
    · exact keep g (hlt g _ hg) (hob g _ hg (by simp))
  · refine cell (k := c2) rfl rfl (fun g hg => ?_) hr hrv
    show (if g < c.w.heap.size ∧ c1.O g = none then c.O g else match c2.O g with | some (.slot n) => some (.slot n) | _ => none) = _
    rw [if_neg, hg]
    rintro ⟨k1, k2⟩
    have := (hf.keep g k1 k2).2.2
    rw [hg] at this
    cases this

end
end Go.Am
