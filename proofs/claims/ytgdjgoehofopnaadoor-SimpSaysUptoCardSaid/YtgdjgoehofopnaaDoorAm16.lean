/- Operations, rows of operations in the text's order, code. -/
import Derived.Test.YtgdjgoehofopnaaDoorAm15
set_option linter.unusedSimpArgs false
set_option linter.unusedVariables false
set_option linter.unnecessarySimpa false
namespace Go.Am
open Go Go.Lib
section
variable {P : Program} {N : Nat} {V : Nat → Bool} {c0 c : Cx} {σ σ' : St} {a : Act} {w : World} {o : Oper}

theorem run_callFunc {f : Nat} {args : Array Value} (h : funcOK P f = true) : (callFunc f args).run P w = .ok (.enter f args) w := by
  unfold funcOK at h
  split at h
  · rename_i fn hfn
    simp only [Bool.and_eq_true, bne_iff_ne, ne_eq] at h
    obtain ⟨h1, h2⟩ := h
    have h3 : fn.body.isNone = false := by
      cases hb : fn.body with
      | none => rw [hb] at h2; cases h2
      | some _ => rfl
    simp only [callFunc, Sem.run_bind, run_program, Result.andThen_ok, hfn]
    have h4 : (fn.name == "runtime.NumGoroutine") = false := by simpa using h1
    simp [h4, h3]
  · cases h

theorem spend_notX {a : AO} (h : a.notX = true) : σ.spend a = σ := by cases a <;> first | rfl | cases h
theorem spends_notX : ∀ {as : List AO}, as.all AO.notX = true → σ.spends as = σ
  | [], _ => rfl
  | a :: as, h => by
    rw [List.all_cons, Bool.and_eq_true] at h
    simp only [St.spends, spend_notX h.1]
    exact spends_notX h.2

theorem dst_slot (h : Sim P N V c0 c σ a w) {c' : Cx} {r : D} {v : Value} {σ1 : St} {w' : World} (hd : dstOK N V o.dst = true) (h1 : Sim P N V c0 c' σ1 a w') (hr : CellRel P c' (.slot (o.dst.getD 0)) r v) :
    Sim P N V c0 c' (σ1.put o.dst (.d r)) (a.put o.dst v) w' :=
  h1.put (dstOK_spec hd) (fun n hn => by rw [hn] at hr; exact hr) (by simp) (by simp)

/-- One operation. -/
theorem op_wp (h : Sim P N V c0 c σ a w) {op : AOp} {K : St → Prop} {K' : Act → World → Prop} {Q : Exit → Act → World → Prop} (hc : chkOp P N V op o = true) (hK : opP (Ev P) op o.dst K σ)
    (hn : ∀ c' σ' a' w', Sim P N V c0 c' σ' a' w' → K σ' → K' a' w') : o.wp P a w K' Q := by
  have goes : ∀ σ', stepF op o.dst σ = some σ' → K σ' → o.wp P a w K' Q := by
    intro σ' hs hk
    obtain ⟨c', w', hg⟩ := op_goes h hc hs
    unfold Oper.wp
    rcases hg with ⟨v, hr, hsim⟩ | ⟨hr, hsim⟩
    · rw [hr]; exact hn _ _ _ _ hsim hk
    · rw [hr]; exact hn _ _ _ _ hsim hk
  have other : (match stepF op o.dst σ with | some σ' => K σ' | none => False) → o.wp P a w K' Q := by
    intro hk
    split at hk
    · exact goes _ (by assumption) hk
    · exact hk.elim
  have call : ∀ f as, chkOp P N V (.call f as) o = true → opP (Ev P) (.call f as) o.dst K σ → o.wp P a w K' Q := by
    intro f as hc hK
    simp only [chkOp, Bool.and_eq_true] at hc
    obtain ⟨⟨hd, hx⟩, hc⟩ := hc
    split at hc
    · rename_i f' xs ts hop
      rw [Bool.and_eq_true, beq_iff_eq] at hc
      obtain ⟨rfl, ho⟩ := hc
      simp only [opP] at hK
      split at hK
      · rename_i ds hg
        obtain ⟨r, H', hev, hk⟩ := hK
        have hrun : (execOp a.eval o).run P w = .ok (.enter f' (xs.map a.eval)) w := by
          simp only [execOp, hop, resolve, Deferred.ofValue, Act.eval, Sem.run_bind, Sem.run_pure, Result.andThen_ok, invoke, Array.empty_append, Array.append_empty]
          have : (#[] : Array Value) ++ xs.map a.eval ++ #[] = xs.map a.eval := by simp
          first
            | exact run_callFunc hev.ok
            | (rw [this]; exact run_callFunc hev.ok)
        have hcall := call_sound h (o.dst.getD 0) (vs := xs.map a.eval) (cs := []) hx ho hg (by rw [List.append_nil]; exact hev) (by simp) (by simp) (by simp)
        unfold Oper.wp
        rw [hrun]
        refine hcall.mono fun e w' ⟨v, c', he, hsim, hr⟩ => ?_
        subst he
        exact hn _ _ _ _ (dst_slot h hd hsim hr) hk
      · exact hK.elim
    · cases hc
  have callv : ∀ g as, chkOp P N V (.callv g as) o = true → opP (Ev P) (.callv g as) o.dst K σ → o.wp P a w K' Q := by
    intro g as hc hK
    simp only [chkOp, Bool.and_eq_true] at hc
    obtain ⟨⟨hd, hx⟩, hc⟩ := hc
    split at hc
    · rename_i x xs ts hop
      rw [Bool.and_eq_true] at hc
      obtain ⟨ho1, ho⟩ := hc
      simp only [opP] at hK
      split at hK
      · rename_i f cs ds hv hg
        obtain ⟨r, H', hev, hk⟩ := hK
        have hr := h.val ho1 hv
        cases hval : a.eval x <;> rw [hval] at hr <;> cases hr
        rename_i vs hl hrep
        have hrun : (execOp a.eval o).run P w = .ok (.enter f (xs.map a.eval ++ vs)) w := by
          simp only [execOp, hop, resolve, Deferred.ofValue, hval, Sem.run_bind, Sem.run_pure, Result.andThen_ok, invoke]
          have : (#[] : Array Value) ++ xs.map a.eval ++ vs = xs.map a.eval ++ vs := by simp
          first
            | exact run_callFunc hev.ok
            | (rw [this]; exact run_callFunc hev.ok)
        have hcall := call_sound h (o.dst.getD 0) (vs := xs.map a.eval ++ vs) (cs := cs) hx ho hg hev (by simp) (fun i d v hd' hv' => hrep i d v hd' (by simpa using hv')) (by simp; omega)
        unfold Oper.wp
        rw [hrun]
        refine hcall.mono fun e w' ⟨v, c', he, hsim, hr⟩ => ?_
        subst he
        exact hn _ _ _ _ (dst_slot h hd hsim hr) hk
      · exact hK.elim
    · cases hc
  cases op
  case call f as => exact call f as hc hK
  case callv g as => exact callv g as hc hK
  case len str aa =>
    simp only [chkOp, Bool.and_eq_true] at hc
    obtain ⟨hd, hc⟩ := hc
    split at hc
    · rename_i x t hop
      rw [Bool.and_eq_true] at hc
      obtain ⟨ho, ht⟩ := hc
      simp only [opP] at hK
      split at hK
      · rename_i d hv
        split at hK
        · rename_i n hlen
          have hu : if str then P.underlying t = some .string else ∃ e, P.underlying t = some (.slice e) := by
            cases str
            · simp only [Bool.false_eq_true, if_false] at ht ⊢
              exact isSliceT_spec ht
            · simp only [if_true] at ht ⊢
              exact isStrT_spec ht
          obtain ⟨hb, c', w', hg⟩ := goes_len h ho hop hu hd hv hlen
          have hk := hK hb
          unfold Oper.wp
          rcases hg with ⟨v, hr, hsim⟩ | ⟨hr, hsim⟩
          · rw [hr]; exact hn _ _ _ _ hsim hk
          · rw [hr]; exact hn _ _ _ _ hsim hk
        · exact hK.elim
      · exact hK.elim
    · cases hc
  case callQ f as =>
    simp only [chkOp, Bool.and_eq_true] at hc
    obtain ⟨hx, hc⟩ := hc
    refine call f as (by simpa only [chkOp, Bool.and_eq_true] using hc) ?_
    simp only [opP] at hK ⊢
    split at hK
    · obtain ⟨r, h1, h2⟩ := hK
      exact ⟨r, _, h1, by rw [spends_notX hx]; exact h2⟩
    · exact hK.elim
  case callvQ g as =>
    simp only [chkOp, Bool.and_eq_true] at hc
    obtain ⟨hx, hc⟩ := hc
    refine callv g as (by simpa only [chkOp, Bool.and_eq_true] using hc) ?_
    simp only [opP] at hK ⊢
    split at hK
    · obtain ⟨r, h1, h2⟩ := hK
      exact ⟨r, _, h1, by rw [spends_notX hx]; exact h2⟩
    · exact hK.elim
  all_goals exact other hK

/-- A slice of an object becomes a list: nothing turns in memory. -/
theorem freeze_one (h : Sim P N V c0 c σ a w) {n b off len sz' : Nat} {xs : List D} (he : σ.env n = .d (.ref b off len sz')) (hx : σ.elems sz' (.ref b off len sz') = some xs) (hel : xs.all (D.elem sz') = true) :
    ∃ c', Sim P N V c0 c' { env := upd σ.env n (.d (.list xs)), H := σ.H.set b none } a w := by
  have hel' : ∀ x ∈ xs, x.elem sz' = true := fun x hx => List.all_eq_true.1 hel x hx
  have hsl := h.slots n
  rw [he] at hsl
  have hr : Rep c.w c.F c.j (.ref b off len sz') (tmOf a n) := hsl
  have hw := h.hw
  subst hw
  -- the object's block
  have hobj : ∃ cs, σ.obj b = some cs := by
    simp only [St.elems, if_true] at hx
    split at hx
    · exact ⟨_, by assumption⟩
    · cases hx
  obtain ⟨cs, hob⟩ := hobj
  obtain ⟨B, hB, C, e, q1, q2, q3, q4, q5⟩ := h.obj hob
  obtain ⟨us, hE⟩ := h.elems hr hx hel'
  have hlt : B < c.w.heap.size := h.own_lt q3
  let c1 : Cx := { w := c.w, F := fun k => if k = B then C.size else c.F k, j := c.j, O := fun k => if k = B then none else c.O k }
  have hle : Le c c1 := ⟨Nat.le_refl _, fun k => by
    show c.F k ≤ if k = B then C.size else c.F k
    split
    · rename_i e; subst e; rw [q4]; omega
    · omega, fun _ _ _ _ hv => hv, fun _ C e fr hk => ⟨C, e, fr, hk, Nat.le_refl _⟩, fun _ _ hj => hj⟩
  have hk : Keeps c c1 (fun x => x = .ob b) := by
    intro k ow hO hx
    have : k ≠ B := by rintro rfl; rw [q3] at hO; injection hO with hO; exact hx hO.symm
    exact ⟨rfl, if_neg this, if_neg this⟩
  have hf : Fr c c1 := ⟨rfl, rfl, rfl, hle, fun k _ hO => by
    have : k ≠ B := by rintro rfl; rw [q3] at hO; cases hO
    exact ⟨rfl, if_neg this, (if_neg this).trans hO⟩⟩
  have hrl : Rep c1.w c1.F c1.j (.list xs) (tmOf a n) := by
    simp only [St.elems, if_true, hob] at hx
    split at hx
    · rename_i ds hcut
      obtain ⟨hcl, hcd⟩ := cut_spec hcut
      cases hv : tmOf a n <;> rw [hv] at hr <;> cases hr
      rename_i cap B' hj hbn hcap hblk
      rw [hB] at hj
      cases hj
      obtain ⟨A', cap', hform⟩ := hE.form
      rw [hv] at hform
      cases hform
      have hfl := flat_length hel'
      have hus := hE.len
      have hF : ∀ i, i < xs.length * sz' → off + i < c1.F B := by
        intro i hi
        show off + i < if B = B then C.size else c.F B
        rw [if_pos rfl]
        omega
      have hfc := hE.first c.w rfl
      rw [hv] at hfc
      refine .list xs B off cap sz' (fun i => us.getD i undef) hcap hbn hel' hF (fun i hi => ?_) (fun i d hd => ?_)
      · have hC : off + i < C.size := by
          have := hF i hi
          rw [show c1.F B = C.size from if_pos rfl] at this
          exact this
        have hci : c.w.cell? ⟨B, off + i, none⟩ = some C[off + i] := by
          rw [cell_of_row c.w B (off + i) C e (0, 0) q1]
          exact Array.getElem?_eq_getElem hC
        -- the elements' values are the cells
        have hld : (Builtin.firstCells sz' xs.length (.slice (some ⟨B, off, none⟩) xs.length cap)).run P c.w = .ok ((List.range (xs.length * sz')).map fun k => (c.w.cell? ⟨B, off + k, none⟩).getD undef).toArray c.w := by
          simp only [Builtin.firstCells]
          refine run_loadCells c.w ⟨B, off, none⟩ (xs.length * sz') _ (fun k hk => ?_)
          have hC' : off + k < C.size := by
            have := hF k hk
            rw [show c1.F B = C.size from if_pos rfl] at this
            exact this
          rw [Addr.add_lit, cell_of_row c.w B (off + k) C e (0, 0) q1, Array.getElem?_eq_getElem hC']
          rfl
        rw [hld] at hfc
        injection hfc with hfc
        have hfc' := congrArg (fun x : Array Value => x[i]?) hfc
        simp only [List.getElem?_toArray, List.getElem?_map, List.getElem?_range hi, Option.map_some] at hfc'
        show c.w.cell? _ = _
        rw [hci] at hfc' ⊢
        rw [List.getD_eq_getElem?_getD, ← hfc']
        rfl
      · obtain ⟨u, hu, hru⟩ := hE.rep i d hd
        rw [List.getD_eq_getElem?_getD, hu]
        exact hru.le hle
    · cases hx
  have hsim : Sim P N V c0 c1 { env := upd σ.env n (.d (.list xs)), H := σ.H.set b none } a c.w := by
    refine ⟨rfl, fun k hk' => ?_, h.fr.trans hf, h.size, fun m hm => ?_, fun m cs' hm => ?_, fun m t off' hm => ?_, fun m => ?_, ⟨?_, fun b' cs' hb' => ?_⟩, h.dfr⟩
    · have : k ≠ B := by have : c.w.heap.size ≤ k := hk'; omega
      exact ⟨(if_neg this).trans (h.wf k hk').1, (if_neg this).trans (h.wf k hk').2⟩
    · show upd σ.env n _ m = .und
      rw [upd]
      split
      · rename_i e; subst e; have := h.out m hm; rw [he] at this; cases this
      · exact h.out m hm
    · have hm' : upd σ.env n (.d (.list xs)) m = .var cs' := hm
      rw [upd] at hm'
      split at hm'
      · cases hm'
      · exact h.vars m cs' hm'
    · have hm' : upd σ.env n (.d (.list xs)) m = .loc t off' := hm
      rw [upd] at hm'
      split at hm'
      · cases hm'
      · exact h.locs m t off' hm'
    · show SlotRel P _ _ m (upd σ.env n (.d (.list xs)) m) _
      rw [upd]
      split
      · rename_i e; subst e
        exact CellRel.of_rep (P := P) (o := .slot m) hrl
      · rename_i e
        exact (h.slots m).keeps hle hk (by simp) (by simp) (by simp)
    · show c.j.length = _
      rw [List.length_set]; exact h.H.1
    · have hb'' : (σ.H.set b none)[b']? = some (some cs') := hb'
      by_cases e : b' = b
      · subst e
        rw [List.getElem?_set_self'] at hb''
        cases hσ : σ.H[b']? <;> rw [hσ] at hb'' <;> simp at hb''
      · rw [List.getElem?_set_ne (by omega)] at hb''
        obtain ⟨B', r1, r2⟩ := h.H.2 b' cs' hb''
        exact ⟨B', r1, r2.keeps hle hk (by simp [e]) (by simp)⟩
  exact ⟨c1, hsim⟩

/-- So for many. -/
theorem freeze_sound : ∀ {l : List (Nat × Nat)} {c : Cx} {σ σ' : St}, Sim P N V c0 c σ a w → σ.freeze l = some σ' → ∃ c', Sim P N V c0 c' σ' a w
  | [], c, σ, σ', h, hs => by
    simp only [St.freeze, Option.some.injEq] at hs
    subst hs
    exact ⟨c, h⟩
  | (n, sz) :: l, c, σ, σ', h, hs => by
    simp only [St.freeze] at hs
    split at hs
    · rename_i b off len sz' he
      split at hs
      · rename_i hz
        subst hz
        split at hs
        · rename_i xs hx
          split at hs
          · rename_i hel
            obtain ⟨c1, h1⟩ := freeze_one h he hx hel
            exact freeze_sound h1 hs
          · cases hs
        · cases hs
      · cases hs
    · cases hs

/-- A guard that says the same. -/
def guardOK (ops : List Oper) (g : Option (Nat × Bool)) (o : Oper) : Bool :=
  match g, o.guard with
  | none, none => true
  | some (t, b), some (k, b') => b == b' && (match ops[k]? with | some o' => o'.dst == some t | none => false)
  | _, _ => false

def isAlloc : AOp → Bool
  | .box _ | .alloc _ => true
  | _ => false

def chkI (P : Program) (N : Nat) (V : Nat → Bool) (ops : List Oper) (i : AI) (o : Oper) : Bool :=
  i.dst == o.dst && guardOK ops i.g o && chkOp P N V i.op o && (i.g.isNone || dstOK N V o.dst) && (i.g.isNone || i.frz.isEmpty)

def chkIs (P : Program) (N : Nat) (V : Nat → Bool) (ops : List Oper) : List AI → List Oper → Bool
  | [], [] => true
  | i :: is, o :: os => chkI P N V ops i o && chkIs P N V ops is os
  | _, _ => false

theorem yielded_slot {ops : Array Oper} {t k : Nat} {o' : Oper} {b : Bool} (hk : ops.toList[k]? = some o') (ht : o'.dst = some t) (htm : a.tmps[t]? = some (.bool b)) : yielded ops a.tmps k = some b := by
  have : ops[k]? = some o' := by simpa using hk
  simp [yielded, this, ht, htm]

theorem yielded_undef {ops : Array Oper} {t k : Nat} {o' : Oper} (hk : ops.toList[k]? = some o') (ht : o'.dst = some t) (htm : tmOf a t = undef) : yielded ops a.tmps k = none := by
  have : ops[k]? = some o' := by simpa using hk
  have htm : a.tmps.getD t undef = undef := htm
  rw [Array.getD_eq_getD_getElem?] at htm
  cases hx : a.tmps[t]? with
  | none => simp [yielded, this, ht, hx]
  | some x =>
    rw [hx] at htm
    simp only [Option.getD_some] at htm
    subst htm
    simp [yielded, this, ht, hx, undef]

/-- One operation with its guard. -/
theorem one_sound (h : Sim P N V c0 c σ a w) {ops : Array Oper} {i : AI} {K : St → Prop} {K' : Act → World → Prop} {Q : Exit → Act → World → Prop} (hc : chkI P N V ops.toList i o = true)
    (hK : match i.g with
      | none => (match σ.freeze i.frz with | some σ => opP (Ev P) i.op i.dst K σ | none => False)
      | some (t, b) => (match σ.env t with | .d (.bool b') => if b' = b then opP (Ev P) i.op i.dst K σ else K (σ.put i.dst .no) | .no => K (σ.put i.dst .no) | _ => False))
    (hn : ∀ c' σ' a' w', Sim P N V c0 c' σ' a' w' → K σ' → K' a' w') : if Region.wanted o (yielded ops a.tmps) = true then o.wp P a w K' Q ∨ (o.asks P a w ∧ LetsOut Q) else K' (a.put o.dst undef) w := by
  simp only [chkI, Bool.and_eq_true, beq_iff_eq] at hc
  obtain ⟨⟨⟨⟨hd, hg⟩, hop⟩, hz⟩, _⟩ := hc
  rw [hd] at hK
  cases hgi : i.g with
  | none =>
    rw [hgi] at hK hg
    have hog : o.guard = none := by
      simp only [guardOK] at hg
      split at hg <;> simp_all
    rw [if_pos (by simp [Region.wanted, hog])]
    simp only at hK
    split at hK
    · rename_i σ1 hf
      obtain ⟨c1, h1⟩ := freeze_sound h hf
      exact .inl (op_wp h1 hop hK hn)
    · exact hK.elim
  | some p =>
    obtain ⟨t, b⟩ := p
    rw [hgi] at hK hg hz
    have hog : ∃ k o', o.guard = some (k, b) ∧ ops.toList[k]? = some o' ∧ o'.dst = some t := by
      simp only [guardOK] at hg
      split at hg
      · simp_all
      · rename_i t' b' k b'' e1 e2
        simp only [Option.some.injEq, Prod.mk.injEq] at e1
        obtain ⟨rfl, rfl⟩ := e1
        simp only [Bool.and_eq_true, beq_iff_eq] at hg
        obtain ⟨rfl, hg⟩ := hg
        split at hg
        · rename_i o' hk
          exact ⟨k, o', e2, hk, by simpa using hg⟩
        · cases hg
      · cases hg
    obtain ⟨k, o', hog, hk, ht⟩ := hog
    simp only at hK
    split at hK
    · rename_i b' he
      have hs := h.slots t
      rw [he] at hs
      have hv : tmOf a t = .bool b' := rep_bool (show Rep c.w c.F c.j (.bool b') _ from hs)
      have htm : a.tmps[t]? = some (.bool b') := by
        have hlt : t < a.tmps.size := by
          rw [h.size]
          rcases Nat.lt_or_ge t N with hl | hl
          · exact hl
          · rw [h.out t hl] at he; cases he
        have : tmOf a t = a.tmps[t] := by simp [tmOf, hlt]
        rw [Array.getElem?_eq_getElem hlt, ← this, hv]
      have hy := yielded_slot (ops := ops) hk ht htm
      by_cases hb : b' = b
      · rw [if_pos hb] at hK
        subst hb
        rw [if_pos (by simp [Region.wanted, hog, hy])]
        exact .inl (op_wp h hop hK hn)
      · rw [if_neg hb] at hK
        rw [if_neg (by simp [Region.wanted, hog, hy, hb])]
        refine hn _ _ _ _ (h.put (s := .no) (dstOK_spec (by simpa using hz)) (fun _ _ => rfl) (by simp) (by simp)) hK
    · rename_i he
      have hs : tmOf a t = undef := by have := h.slots t; rw [he] at this; exact this
      have hy : yielded ops a.tmps k = none := yielded_undef hk ht hs
      rw [if_neg (by simp [Region.wanted, hog, hy])]
      exact hn _ _ _ _ (h.put (s := .no) (dstOK_spec (by simpa using hz)) (fun _ _ => rfl) (by simp) (by simp)) hK
    · exact hK.elim

theorem away_iff : ∀ {l : List (Nat × Nat)} {p : Prop}, away l σ p ↔ (l.all fun x => notLoc x.2 (σ.env x.1)) = true ∧ p
  | [], p => by simp [away]
  | (n, b) :: l, p => by simp only [away, away_iff, List.all_cons, Bool.and_eq_true, and_assoc]

theorem wpo_sound {ops : Array Oper} {Q : Exit → Act → World → Prop} {Q' : St → Prop} : ∀ {is : List AI} {os : List Oper} {c : Cx} {σ : St} {a : Act} {w : World}, chkIs P N V ops.toList is os = true → Sim P N V c0 c σ a w → wpo (Ev P) is Q' σ →
    (∀ c' σ' a' w', Sim P N V c0 c' σ' a' w' → Q' σ' → Q .normal a' w') → wpList P ops Q os a w
  | [], [], c, σ, a, w, _, h, hq, hn => hn _ _ _ _ h hq
  | i :: is, o :: os, c, σ, a, w, hc, h, hq, hn => by
    rw [chkIs, Bool.and_eq_true] at hc
    unfold wpList
    unfold wpo at hq
    exact one_sound h hc.1 (away_iff.1 hq).2 fun c' σ' a' w' h' hk => wpo_sound hc.2 h' hk hn
  | [], _ :: _, _, _, _, _, hc, _, _, _ => by simp [chkIs] at hc
  | _ :: _, [], _, _, _, _, hc, _, _, _ => by simp [chkIs] at hc

end
end Go.Am
