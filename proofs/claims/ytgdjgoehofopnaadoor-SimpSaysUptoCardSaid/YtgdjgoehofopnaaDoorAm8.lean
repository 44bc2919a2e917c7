/- Places within places; elements; slices. -/
import Derived.Test.YtgdjgoehofopnaaDoorAm7
set_option linter.unusedSimpArgs false
set_option linter.unusedVariables false
set_option linter.unnecessarySimpa false
namespace Go.Am
open Go
section
variable {P : Program} {N : Nat} {V : Nat → Bool} {c0 c : Cx} {σ σ' : St} {a : Act} {w : World} {o : Oper}

theorem rep_imm_drop {F : Nat → Nat} {j : List Nat} {cs : List D} {v : Value} (n : Nat) (h : Rep w F j (.imm cs) v) : ∃ B off, v = .pointer (some ⟨B, off, none⟩) ∧ Rep w F j (.imm (cs.drop n)) (.pointer (some ⟨B, off + n, none⟩)) := by
  cases h with
  | imm _ B off g hone hF hcell hrep =>
  refine ⟨B, off, rfl, .imm _ B (off + n) (fun i => g (n + i)) (fun c hc => hone c (List.mem_of_mem_drop hc)) (fun i hi => ?_) (fun i hi => ?_) (fun i d hd => ?_)⟩
  · rw [List.length_drop] at hi
    have := hF (n + i) (by omega)
    omega
  · rw [List.length_drop] at hi
    have := hcell (n + i) (by omega)
    rw [← Nat.add_assoc] at this
    exact this
  · rw [List.getElem?_drop] at hd
    exact hrep _ d hd

/-- A place further on. -/
theorem Sim.move (h : Sim P N V c0 c σ a w) {n k m : Nat} {l : Lv} (hl : σ.lv n = some l) : ∃ B off, tmOf a n = .pointer (some ⟨B, off, none⟩) ∧ SlotRel P c (tmOf a) m (l.move k) (.pointer (some ⟨B, off + k, none⟩)) ∧
    (∀ cs, l.move k ≠ .var cs) ∧ ∀ t off, l.move k = .loc t off → V t = true := by
  obtain ⟨h1, h2⟩ := h.lv hl
  cases l with
  | var t off =>
    obtain ⟨B, q1, q2⟩ := h1
    exact ⟨B, off, q2, ⟨B, q1, rfl⟩, by simp [Lv.move], by intro t' off' e; simp [Lv.move] at e; rw [← e.1]; exact h2 t off rfl⟩
  | obj b off =>
    have h1' : Rep c.w c.F c.j (.ptr b off) (tmOf a n) := h1
    cases hv : tmOf a n <;> rw [hv] at h1' <;> cases h1'
    rename_i B hB
    exact ⟨B, off, rfl, CellRel.of_rep (P := P) (o := .slot m) (.ptr b (off + k) B hB), by simp [Lv.move], by simp [Lv.move]⟩
  | imm cs =>
    obtain ⟨B, off, q1, q2⟩ := rep_imm_drop k h1
    exact ⟨B, off, q1, CellRel.of_rep (P := P) (o := .slot m) q2, by simp [Lv.move], by simp [Lv.move]⟩

theorem Sim.goesSlot (h : Sim P N V c0 c σ a w) (hd : dstOK N V o.dst = true) {s : Slot} {v : Value} (hrun : (execOp a.eval o).run P w = .ok (.value v) w) (hr : ∀ m, SlotRel P c (tmOf a) m s v)
    (h1 : ∀ cs, s ≠ .var cs) (h2 : ∀ t off, s = .loc t off → V t = true) : Goes P N V c0 (σ.put o.dst s) a w o :=
  ⟨c, w, .inl ⟨v, hrun, h.put (dstOK_spec hd) (fun m _ => hr m) h1 h2⟩⟩

theorem goes_fa (h : Sim P N V c0 c σ a w) {n off k : Nat} {x : Operand} {t : TypeId} {fs : Array Field} {f : Field} {i : TypeInfo} (ho : opr (.t n) x = true) (hop : o.op = .fieldAddr t x k)
    (hu : P.underlying t = some (.struct fs)) (hf : fs[k]? = some f) (hoff : f.offset = off) (hi : P.info? f.type = some i) (hsz : i.size ≠ 0) (hd : dstOK N V o.dst = true)
    (hs : stepF (.fa n off) o.dst σ = some σ') : Goes P N V c0 σ' a w o := by
  simp only [stepF] at hs
  split at hs
  · rename_i l hl
    injection hs with hs
    subst hs
    obtain ⟨B, b, q1, _, q3, q4⟩ := h.move (k := off) (m := 0) hl
    refine h.goesSlot hd (v := .pointer (some ⟨B, b + off, none⟩)) ?_ (fun m => ?_) q3 q4
    · subst hoff
      simp [execOp, hop, opr_tmp (.inl ho) a, q1, Instr.fieldAt, run_underlying hu, hf, Instr.sureAddr, fieldPlace, run_sizeOf' hi, hsz, Addr.add_lit]
    · obtain ⟨B', b', e1, e2, _⟩ := h.move (k := off) (m := m) hl
      rw [q1] at e1
      cases e1
      exact e2
  · cases hs

theorem goes_iaa (h : Sim P N V c0 c σ a w) {n len sz : Nat} {ai : AO} {x xi : Operand} {t e : TypeId} {i : TypeInfo} (ho : opr (.t n) x = true ∧ opr ai xi = true) (hop : o.op = .indexAddr t x xi)
    (hu : P.underlying t = some (.array len e)) (hi : P.info? e = some i) (hsz : i.size = sz) (hd : dstOK N V o.dst = true)
    (hs : stepF (.iaa len sz n ai) o.dst σ = some σ') : Goes P N V c0 σ' a w o := by
  simp only [stepF] at hs
  split at hs
  · rename_i l k m hl hv
    split at hs
    · rename_i hb
      injection hs with hs
      subst hs
      obtain ⟨B, b, q1, _, q3, q4⟩ := h.move (k := m.toNat * sz) (m := 0) hl
      have hy := rep_int (h.val ho.2 hv)
      refine h.goesSlot hd (v := .pointer (some ⟨B, b + m.toNat * sz, none⟩)) ?_ (fun m' => ?_) q3 q4
      · subst hsz
        simp [execOp, hop, opr_tmp (.inl ho.1) a, q1, hy, Instr.indexAt, asIntOf, run_underlying hu, Instr.sureAddr, run_sizeOf' hi, hb, Addr.add_lit]
      · obtain ⟨B', b', e1, e2, _⟩ := h.move (k := m.toNat * sz) (m := m') hl
        rw [q1] at e1
        cases e1
        exact e2
    · cases hs
  · cases hs

/-- Element n of a list. -/
theorem rep_elem {F : Nat → Nat} {j : List Nat} {xs : List D} {x : D} {v : Value} {n sz : Nat} (h : Rep w F j (.list xs) v) (hx : xs[n]? = some x) (hsz : x.cells.length = sz) :
    ∃ B off cap, v = .slice (some ⟨B, off, none⟩) xs.length cap ∧ Rep w F j (.imm x.cells) (.pointer (some ⟨B, off + n * sz, none⟩)) := by
  have hlt := (List.getElem?_eq_some_iff.1 hx).1
  cases h with
  | list0 a cap => simp at hlt
  | list _ B off cap sz' g hc hb hel hF hcell hrep =>
  have he := elem_iff.1 (hel x (List.mem_of_getElem? hx))
  have : sz' = sz := by rw [← hsz, he.1]
  subst this
  have hle : ∀ i, i < sz' → n * sz' + i < xs.length * sz' := by
    intro i hi
    have : (n + 1) * sz' ≤ xs.length * sz' := Nat.mul_le_mul_right _ hlt
    rw [Nat.succ_mul] at this
    omega
  refine ⟨B, off, cap, rfl, .imm _ B _ (fun i => g (n * sz' + i)) (fun c hc => ⟨he.2.2 c hc, elem_cells_closed (hel x (List.mem_of_getElem? hx)) c hc⟩) (fun i hi => ?_) (fun i hi => ?_) (fun i d hd => ?_)⟩
  · have := hF (n * sz' + i) (hle i (by omega))
    omega
  · have := hcell (n * sz' + i) (hle i (by omega))
    rw [← Nat.add_assoc] at this
    exact this
  · have hi := (List.getElem?_eq_some_iff.1 hd).1
    refine hrep _ d ?_
    rw [flat_at hel hx (by omega)]
    exact hd

theorem goes_ias (h : Sim P N V c0 c σ a w) {sz : Nat} {aa ai : AO} {x xi : Operand} {t e : TypeId} {i : TypeInfo} (ho : opr aa x = true ∧ opr ai xi = true) (hop : o.op = .indexAddr t x xi)
    (hu : P.underlying t = some (.slice e)) (hi : P.info? e = some i) (hsz : i.size = sz) (hd : dstOK N V o.dst = true)
    (hs : stepF (.ias sz aa ai) o.dst σ = some σ') : Goes P N V c0 σ' a w o := by
  simp only [stepF] at hs
  split at hs
  · rename_i xs k m hx hv
    split at hs
    · rename_i hb
      split at hs
      · rename_i y hy
        split at hs
        · rename_i hl
          injection hs with hs
          subst hs
          have hlt := (List.getElem?_eq_some_iff.1 hy).1
          obtain ⟨B, off, cap, q1, q2⟩ := rep_elem (h.val ho.1 hx) hy hl
          have hiv := rep_int (h.val ho.2 hv)
          refine h.goes hd (v := .pointer (some ⟨B, off + m.toNat * sz, none⟩)) ?_ q2
          have hm : m < (xs.length : Int) := by omega
          subst hsz
          simp [execOp, hop, q1, hiv, Instr.indexAt, asIntOf, run_underlying hu, run_sizeOf' hi, hb, hm, Addr.add_lit]
        · cases hs
      · cases hs
    · cases hs
  · rename_i b off len sz' k m hx hv
    split at hs
    · rename_i hb
      injection hs with hs
      subst hs
      have hr := h.val ho.1 hx
      have hiv := rep_int (h.val ho.2 hv)
      cases hval : a.eval x <;> rw [hval] at hr <;> cases hr
      rename_i cap B hj hc hbn hblk
      refine h.goes hd (v := .pointer (some ⟨B, off + m.toNat * sz, none⟩)) ?_ (.ptr b _ B hj)
      subst hsz
      simp [execOp, hop, hval, hiv, Instr.indexAt, asIntOf, run_underlying hu, run_sizeOf' hi, hb.1, hb.2.1, Addr.add_lit]
    · cases hs
  · cases hs

theorem goes_nilc (h : Sim P N V c0 c σ a w) {n : Nat} {x : Operand} (ho : opr (.t n) x = true) (hop : o.op = .nilCheck x) (hd : dstOK N V o.dst = true)
    (hs : stepF (.nilc n) o.dst σ = some σ') : Goes P N V c0 σ' a w o := by
  simp only [stepF] at hs
  have hsl := h.slots n
  have hrun : ∀ v, tmOf a n = v → (v ≠ .pointer none ∧ v ≠ .nilIface ∧ v ≠ .nilFunc ∧ ∀ m f c, v ≠ .func (.method m) f c) → (execOp a.eval o).run P w = .ok (.value v) w := by
    intro v hv ⟨h1, h2, h3, h4⟩
    simp only [execOp, hop, opr_tmp (.inl ho) a, hv]
    rfl
  split at hs
  · cases hs
  · cases hs
  · cases hs
  · rename_i d h1 h2 h3 he
    rw [he] at hsl
    injection hs with hs
    subst hs
    have hr := CellRel.copy (show CellRel P c (.slot n) d (tmOf a n) from hsl)
    refine h.goes hd (hrun _ rfl ?_) hr
    refine ⟨?_, ?_, ?_, ?_⟩
    · intro e; rw [e] at hr; cases d <;> simp [D.copy] at hr <;> first | (cases hr; done) | exact h1 rfl
    · intro e; rw [e] at hr; cases d <;> simp [D.copy] at hr <;> first | (cases hr; done) | exact h2 rfl
    · intro e; rw [e] at hr; cases d <;> simp [D.copy] at hr <;> first | (cases hr; done) | exact h3 rfl
    · intro m f c' e; rw [e] at hr; cases d <;> simp [D.copy] at hr <;> (cases hr; done)
  · rename_i cs he
    rw [he] at hsl
    injection hs with hs
    subst hs
    obtain ⟨B, hv, _⟩ := hsl
    exact h.goesSlot hd (hrun _ hv (by simp)) (fun m => ⟨B, hv, rfl⟩) (by simp) (by intro t off e; cases e; exact h.vars n cs he)
  · rename_i s off he
    rw [he] at hsl
    injection hs with hs
    subst hs
    obtain ⟨B, q1, q2⟩ := hsl
    exact h.goesSlot hd (hrun _ q2 (by simp)) (fun m => ⟨B, q1, rfl⟩) (by simp) (by intro t off e; cases e; exact h.locs n _ _ he)
  · cases hs
  · cases hs

theorem run_eq_nil {t e : TypeId} (m : Nat) (hu : P.underlying t = some (.slice e)) (A : Option Addr) (len cap : Nat) : (Op.equalIn (m + 1) t (.slice A len cap) (.slice none 0 0)).run P w = .ok A.isNone w := by
  cases A <;> simp [Op.equalIn, run_underlying hu]

theorem goes_isnil (h : Sim P N V c0 c σ a w) {neq : Bool} {aa : AO} {xa : Operand} {t t' : TypeId} (ho : opr aa xa = true) (hop : o.op = .binOp (if neq then .neq else .eql) t xa (.const (.slice none 0 0)) t') {e : TypeId} (hu : P.underlying t = some (.slice e)) (hd : dstOK N V o.dst = true)
    (hs : stepF (.isnil neq aa) o.dst σ = some σ') : Goes P N V c0 σ' a w o := by
  have key : ∀ v (r : Bool), a.eval xa = v → notNum v = true → (∀ vs, v ≠ .agg vs) → v ≠ .nilIface → (Op.equal t v (.slice none 0 0)).run P w = .ok r w → (execOp a.eval o).run P w = .ok (.value (.bool (if neq then !r else r))) w := by
    intro v r hv hn h1 h2 hr
    refine run_bin (r := .ok (.bool (if neq then !r else r)) w) hop hv rfl (run_eqGuard_plain h1 h2) ?_
    cases neq
    · simp only [Bool.false_eq_true, if_false]
      rw [binOp_eql hn]
      show Sem.run P (do pure (Value.bool (← Op.equal t v (.slice none 0 0)))) w = _
      simp [hr]
    · simp only [if_true]
      rw [binOp_neq hn]
      show Sem.run P (do pure (Value.bool (!(← Op.equal t v (.slice none 0 0))))) w = _
      simp [hr]
  simp only [stepF] at hs
  split at hs
  · rename_i hx
    injection hs with hs
    subst hs
    have hr := h.val ho hx
    cases hv : a.eval xa <;> rw [hv] at hr <;> cases hr
    have := key _ true hv rfl (by simp) (by simp) (run_eq_nil 9999 hu _ _ _)
    refine h.goes hd this ?_
    cases neq <;> exact .bool _
  · rename_i hx
    injection hs with hs
    subst hs
    have hr := h.val ho hx
    cases hv : a.eval xa <;> rw [hv] at hr <;> cases hr
    have := key _ false hv rfl (by simp) (by simp) (run_eq_nil 9999 hu _ _ _)
    refine h.goes hd this ?_
    cases neq <;> exact .bool _
  · rename_i hx
    injection hs with hs
    subst hs
    have hr := h.val ho hx
    cases hv : a.eval xa <;> rw [hv] at hr <;> cases hr
    have := key _ false hv rfl (by simp) (by simp) (run_eq_nil 9999 hu _ _ _)
    refine h.goes hd this ?_
    cases neq <;> exact .bool _
  · cases hs

end
end Go.Am
