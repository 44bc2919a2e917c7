/- Operations that touch no memory: the machine's and the abstract machine's go alike. -/
import Derived.Test.YtgdjgoehofopnaaDoorAm3
set_option linter.unusedSimpArgs false
set_option linter.unusedVariables false
namespace Go.Am
open Go

/-- One operation, gone alike. -/
def Goes (P : Program) (N : Nat) (V : Nat → Bool) (c0 : Cx) (σ' : St) (a : Act) (w : World) (o : Oper) : Prop :=
  ∃ c' w', (∃ v, (execOp a.eval o).run P w = .ok (.value v) w' ∧ Sim P N V c0 c' σ' (a.put o.dst v) w') ∨ ((execOp a.eval o).run P w = .ok .skip w' ∧ Sim P N V c0 c' σ' (a.put o.dst undef) w')

/-- A result's place. -/
def dstOK (N : Nat) (V : Nat → Bool) (dst : Option Nat) : Bool := match dst with | none => true | some n => decide (n < N) && !V n

theorem dstOK_spec {N : Nat} {V : Nat → Bool} {dst : Option Nat} (h : dstOK N V dst = true) : ∀ n, dst = some n → n < N ∧ V n = false := by
  intro n hn
  subst hn
  simpa [dstOK] using h

section
variable {P : Program} {N : Nat} {V : Nat → Bool} {c0 c : Cx} {σ σ' : St} {a : Act} {w : World} {o : Oper}

/-- A plain value is put; the world is as it was. -/
theorem Sim.goes (h : Sim P N V c0 c σ a w) (hd : dstOK N V o.dst = true) {d : D} {v : Value} (hrun : (execOp a.eval o).run P w = .ok (.value v) w) (hr : Rep c.w c.F c.j d v) :
    Goes P N V c0 (σ.put o.dst (.d d)) a w o :=
  ⟨c, w, .inl ⟨v, hrun, h.put (dstOK_spec hd) (fun _ _ => CellRel.of_rep hr) (by simp) (by simp)⟩⟩

/-- The right to append leaves a slot. -/
theorem Sim.take (h : Sim P N V c0 c σ a w) {n : Nat} {e : Nat} {xs : List D} (hn : σ.env n = .d (.own e xs)) (o' : Owner) :
    Sim P N V c0 (c.give (tmOf a n) o') { σ with env := upd σ.env n (.d (.list xs)) } a w ∧ OwnRel P (c.give (tmOf a n) o') o' e xs (tmOf a n) := by
  have hs := h.slots n
  rw [hn] at hs
  have hr : OwnRel P c (.slot n) e xs (tmOf a n) := hs
  obtain ⟨h1, h2, h3, h4⟩ := h.hand (o' := o') hr
  have hle := c.give_le (tmOf a n) o'
  refine ⟨⟨h.hw, h2, h.fr.trans h1, h.size, fun m hm => ?_, fun m cs hm => ?_, fun m t off hm => ?_, fun m => ?_, h.H.keeps hle h3 rfl (by simp) (by simp), h.dfr⟩, h4⟩
  · show upd σ.env n _ m = .und
    rw [upd]
    split
    · rename_i e; subst e; have := h.out m hm; rw [hn] at this; cases this
    · exact h.out m hm
  · have hm' : upd σ.env n (.d (.list xs)) m = .var cs := hm
    rw [upd] at hm'
    split at hm'
    · cases hm'
    · exact h.vars m cs hm'
  · have hm' : upd σ.env n (.d (.list xs)) m = .loc t off := hm
    rw [upd] at hm'
    split at hm'
    · cases hm'
    · exact h.locs m t off hm'
  · show SlotRel P _ _ m (upd σ.env n (.d (.list xs)) m) _
    rw [upd]
    split
    · rename_i e; subst e
      exact CellRel.of_rep (P := P) (o := .slot m) (hr.rep.le hle)
    · rename_i e
      exact (h.slots m).keeps hle h3 (by simp [e]) (by simp) (by simp)

theorem spend_t (σ : St) (n : Nat) : σ.spend (.t n) = σ := rfl
theorem spend_k (σ : St) (d : D) : σ.spend (.k d) = σ := rfl

/-- What an operand hands on, to an owner of its own. -/
theorem Sim.hands (h : Sim P N V c0 c σ a w) {ao : AO} {x : Operand} {d : D} (ho : opr ao x = true) (hd : σ.give ao = some d) (o' : Owner) :
    ∃ c', Sim P N V c0 c' (σ.spend ao) a w ∧ CellRel P c' o' d (a.eval x) ∧ (c' = c ∨ ∃ v, c' = c.give v o') := by
  rcases h.give ho hd with ⟨n, rfl, he, hr⟩ | ⟨hx, hr⟩
  · by_cases ho' : ∃ e xs, d = .own e xs
    · obtain ⟨e, xs, rfl⟩ := ho'
      obtain ⟨h1, h2⟩ := h.take he o'
      refine ⟨c.give (tmOf a n) o', ?_, ?_, .inr ⟨tmOf a n, rfl⟩⟩
      · simp only [St.spend, he]
        exact h1
      · rw [opr_tmp (.inr ho) a]
        exact h2
    · have hs : σ.spend (.x n) = σ := by
        simp only [St.spend, he]
        split
        · rename_i e; cases e; exact absurd ⟨_, _, rfl⟩ ho'
        · rfl
      rw [hs]
      refine ⟨c, h, CellRel.of_rep ?_, .inl rfl⟩
      unfold CellRel at hr
      split at hr
      · exact absurd ⟨_, _, rfl⟩ ho'
      · exact hr
  · refine ⟨c, ?_, CellRel.of_rep hr, .inl rfl⟩
    cases ao with
    | t n => exact h
    | x n => exact absurd rfl (hx n)
    | k d => exact h

theorem goes_mv (h : Sim P N V c0 c σ a w) {ao : AO} {x : Operand} (ho : opr ao x = true) (hop : o.op = .move x ∨ o.op = .assign x) (hd : dstOK N V o.dst = true)
    (hs : stepF (.mv ao) o.dst σ = some σ') : Goes P N V c0 σ' a w o := by
  simp only [stepF] at hs
  split at hs
  · rename_i d hg
    injection hs with hs
    subst hs
    have hrun : (execOp a.eval o).run P w = .ok (.value (a.eval x)) w := by
      rcases hop with hop | hop <;> simp [execOp, hop]
    obtain ⟨c', h1, h2, _⟩ := h.hands ho hg (.slot (o.dst.getD 0))
    exact ⟨c', w, .inl ⟨_, hrun, h1.put (dstOK_spec hd) (fun n hn => by rw [hn] at h2; exact h2) (by simp) (by simp)⟩⟩
  · cases hs

theorem goes_pick (h : Sim P N V c0 c σ a w) {ac aa ab : AO} {xc xa xb : Operand} (ho : opr ac xc = true ∧ opr aa xa = true ∧ opr ab xb = true) (hop : o.op = .pick xc xa xb) (hd : dstOK N V o.dst = true)
    (hs : stepF (.pick ac aa ab) o.dst σ = some σ') : Goes P N V c0 σ' a w o := by
  simp only [stepF] at hs
  split at hs
  · rename_i b x y h1 h2 h3
    injection hs with hs
    subst hs
    have hc := h.val ho.1 h1
    cases hv : a.eval xc <;> rw [hv] at hc <;> cases hc
    refine h.goes hd (v := if b then a.eval xa else a.eval xb) (by simp [execOp, hop, hv, asBool]) ?_
    cases b
    · exact h.val ho.2.2 h3
    · exact h.val ho.2.1 h2
  · rename_i x h1 h2 h3
    injection hs with hs
    subst hs
    have hc := h.val ho.1 h1
    cases hv : a.eval xc <;> rw [hv] at hc <;> cases hc
    exact h.goes hd (by simp [execOp, hop, hv, asBool]) (h.val ho.2.1 h2)
  · rename_i x h1 h2 h3
    injection hs with hs
    subst hs
    have hc := h.val ho.1 h1
    cases hv : a.eval xc <;> rw [hv] at hc <;> cases hc
    exact h.goes hd (by simp [execOp, hop, hv, asBool]) (h.val ho.2.2 h3)
  · cases hs

theorem rep_int {w : World} {F : Nat → Nat} {j : List Nat} {k : IntKind} {n : Int} {v : Value} (h : Rep w F j (.int k n) v) : v = .int k n := by cases h; rfl
theorem rep_bool {w : World} {F : Nat → Nat} {j : List Nat} {b : Bool} {v : Value} (h : Rep w F j (.bool b) v) : v = .bool b := by cases h; rfl
theorem rep_str {w : World} {F : Nat → Nat} {j : List Nat} {s : List UInt8} {v : Value} (h : Rep w F j (.str s) v) : v = .string ⟨s.toArray⟩ ∧ s.length ≤ bnd := by cases h; exact ⟨rfl, by assumption⟩

theorem size_ofList (s : List UInt8) : (⟨s.toArray⟩ : ByteArray).size = s.length := by simp [ByteArray.size]

theorem run_and (k : IntKind) (x y : Int) : (Op.intBits .and k x y).run P w = .ok (.int k (bits k (fun p q => p &&& q) x y)) w := rfl
theorem run_or (k : IntKind) (x y : Int) : (Op.intBits .or k x y).run P w = .ok (.int k (bits k (fun p q => p ||| q) x y)) w := rfl
theorem run_xor (k : IntKind) (x y : Int) : (Op.intBits .xor k x y).run P w = .ok (.int k (bits k (fun p q => p ^^^ q) x y)) w := rfl
theorem run_andNot (k : IntKind) (x y : Int) : (Op.intBits .andNot k x y).run P w = .ok (.int k (bits k (fun p q => p &&& ~~~q) x y)) w := rfl

theorem run_binInt {op : BinOp} {t : TypeId} {k : IntKind} {x y : Int} {d : D} (h : binInt op k x y = some d) (F : Nat → Nat) (j : List Nat) : ∃ v, (binOp op t (.int k x) (.int k y)).run P w = .ok v w ∧ Rep w F j d v := by
  cases op <;> simp only [binInt] at h
  case add => injection h with h; subst h; exact ⟨.int k _, by simp [binOp, Op.intArith], .int _ _⟩
  case sub => injection h with h; subst h; exact ⟨.int k _, by simp [binOp, Op.intArith], .int _ _⟩
  case mul => injection h with h; subst h; exact ⟨.int k _, by simp [binOp, Op.intArith], .int _ _⟩
  case quo => split at h; · cases h
              · rename_i hb; injection h with h; subst h; exact ⟨.int k _, by simp [binOp, Op.intDiv, hb], .int _ _⟩
  case rem => split at h; · cases h
              · rename_i hb; injection h with h; subst h; exact ⟨.int k _, by simp [binOp, Op.intDiv, hb], .int _ _⟩
  case and => injection h with h; subst h; exact ⟨.int k _, by simp [binOp, run_and], .int _ _⟩
  case or => injection h with h; subst h; exact ⟨.int k _, by simp [binOp, run_or], .int _ _⟩
  case xor => injection h with h; subst h; exact ⟨.int k _, by simp [binOp, run_xor], .int _ _⟩
  case andNot => injection h with h; subst h; exact ⟨.int k _, by simp [binOp, run_andNot], .int _ _⟩
  case eql => injection h with h; subst h; exact ⟨.bool _, by simp [binOp, Op.intCmp], .bool _⟩
  case neq => injection h with h; subst h; exact ⟨.bool _, by simp [binOp, Op.intCmp], .bool _⟩
  case lss => injection h with h; subst h; exact ⟨.bool _, by simp [binOp, Op.intCmp], .bool _⟩
  case leq => injection h with h; subst h; exact ⟨.bool _, by simp [binOp, Op.intCmp], .bool _⟩
  case gtr => injection h with h; subst h; exact ⟨.bool _, by simp [binOp, Op.intCmp], .bool _⟩
  case geq => injection h with h; subst h; exact ⟨.bool _, by simp [binOp, Op.intCmp], .bool _⟩
  all_goals cases h

theorem run_shift {op : BinOp} {t : TypeId} {k k' : IntKind} {x y : Int} {d : D} (ho : op = .shl ∨ op = .shr) (h : shift op k x y = some d) (F : Nat → Nat) (j : List Nat) : ∃ v, (binOp op t (.int k x) (.int k' y)).run P w = .ok v w ∧ Rep w F j d v := by
  unfold shift at h
  split at h
  · cases h
  · rename_i hy
    rcases ho with rfl | rfl
    · simp only at h; injection h with h; subst h; exact ⟨.int k _, by simp [binOp, Op.shift, hy], .int _ _⟩
    · simp only at h; injection h with h; subst h; exact ⟨.int k _, by simp [binOp, Op.shift, hy], .int _ _⟩

theorem run_binStr {op : BinOp} {t : TypeId} {x y : List UInt8} {d : D} (h : binStr op x y = some d) (F : Nat → Nat) (j : List Nat) : ∃ v, (binOp op t (.string ⟨x.toArray⟩) (.string ⟨y.toArray⟩)).run P w = .ok v w ∧ Rep w F j d v := by
  cases op <;> simp only [binStr] at h
  case add =>
    split at h
    · rename_i hb
      injection h with h
      subst h
      refine ⟨.string ⟨(x ++ y).toArray⟩, ?_, .str _ (by rw [List.length_append]; exact hb)⟩
      have : ¬ ((((⟨x.toArray⟩ : ByteArray).size + (⟨y.toArray⟩ : ByteArray).size : Nat) : Int) > IntKind.i64.max) := by
        rw [size_ofList, size_ofList]
        have : IntKind.i64.max = 9223372036854775807 := by decide
        omega
      have e : (⟨x.toArray⟩ : ByteArray) ++ ⟨y.toArray⟩ = ⟨(x ++ y).toArray⟩ := by
        apply ByteArray.ext
        simp
      simp only [binOp, Op.stringOp, if_neg this, e]
      rfl
    · cases h
  case eql => injection h with h; subst h; exact ⟨.bool _, by simp [binOp, Op.stringOp], .bool _⟩
  case neq => injection h with h; subst h; exact ⟨.bool _, by simp [binOp, Op.stringOp], .bool _⟩
  case lss => injection h with h; subst h; exact ⟨.bool _, by simp [binOp, Op.stringOp], .bool _⟩
  case leq => injection h with h; subst h; exact ⟨.bool _, by simp [binOp, Op.stringOp], .bool _⟩
  case gtr => injection h with h; subst h; exact ⟨.bool _, by simp [binOp, Op.stringOp], .bool _⟩
  case geq => injection h with h; subst h; exact ⟨.bool _, by simp [binOp, Op.stringOp], .bool _⟩
  all_goals cases h

theorem run_bin {op : BinOp} {t t' : TypeId} {xa xb : Operand} {x y : Value} {r : Result Value} (hop : o.op = .binOp op t xa xb t') (hx : a.eval xa = x) (hy : a.eval xb = y)
    (hg : (eqGuard op t xa xb x y).run P w = .ok () w) (hr : (binOp op t x y).run P w = r) : (execOp a.eval o).run P w = r.andThen fun v w' => .ok (.value v) w' := by
  simp only [execOp, hop, hx, hy, Sem.run_bind, hg, Result.andThen_ok, hr]
  rfl

theorem run_eqGuard_plain {op : BinOp} {t : TypeId} {xa xb : Operand} {x y : Value} (h1 : ∀ vs, x ≠ .agg vs) (h2 : x ≠ .nilIface) : (eqGuard op t xa xb x y).run P w = .ok () w := by
  cases x
  case agg vs => exact absurd rfl (h1 vs)
  case nilIface => exact absurd rfl h2
  all_goals (cases op <;> simp [eqGuard])

theorem goes_bin (h : Sim P N V c0 c σ a w) {op : BinOp} {aa ab : AO} {xa xb : Operand} {t t' : TypeId} (ho : opr aa xa = true ∧ opr ab xb = true) (hop : o.op = .binOp op t xa xb t') (hd : dstOK N V o.dst = true)
    (hs : stepF (.bin op aa ab) o.dst σ = some σ') : Goes P N V c0 σ' a w o := by
  simp only [stepF] at hs
  split at hs
  · rename_i x y h1 h2
    split at hs
    · rename_i d h3
      injection hs with hs
      subst hs
      have hx := h.val ho.1 h1
      have hy := h.val ho.2 h2
      have hw := h.hw
      have key : ∃ v, (binOp op t (a.eval xa) (a.eval xb)).run P w = .ok v w ∧ Rep w c.F c.j d v ∧ (∀ vs, a.eval xa ≠ .agg vs) ∧ a.eval xa ≠ .nilIface := by
        unfold bin at h3
        split at h3
        · split at h3
          · rw [rep_int hx, rep_int hy]
            obtain ⟨v, k1, k2⟩ := run_shift (P := P) (w := w) (t := t) (.inl rfl) h3 c.F c.j
            exact ⟨v, k1, k2, by simp, by simp⟩
          · cases h3
        · split at h3
          · rw [rep_int hx, rep_int hy]
            obtain ⟨v, k1, k2⟩ := run_shift (P := P) (w := w) (t := t) (.inr rfl) h3 c.F c.j
            exact ⟨v, k1, k2, by simp, by simp⟩
          · cases h3
        · split at h3
          · split at h3
            · rename_i hk
              subst hk
              rw [rep_int hx, rep_int hy]
              obtain ⟨v, k1, k2⟩ := run_binInt (P := P) (w := w) (t := t) h3 c.F c.j
              exact ⟨v, k1, k2, by simp, by simp⟩
            · cases h3
          · rw [(rep_str hx).1, (rep_str hy).1]
            obtain ⟨v, k1, k2⟩ := run_binStr (P := P) (w := w) (t := t) h3 c.F c.j
            exact ⟨v, k1, k2, by simp, by simp⟩
          · cases h3
      obtain ⟨v, k1, k2, k3, k4⟩ := key
      exact h.goes hd (run_bin hop rfl rfl (run_eqGuard_plain k3 k4) k1) (by rw [hw]; exact k2)
    · cases hs
  · cases hs

theorem goes_un (h : Sim P N V c0 c σ a w) {op : UnOp} {aa : AO} {xa : Operand} {t : TypeId} (ho : opr aa xa = true) (hop : o.op = .unOp op t xa) (hd : dstOK N V o.dst = true)
    (hs : stepF (.un op aa) o.dst σ = some σ') : Goes P N V c0 σ' a w o := by
  simp only [stepF] at hs
  split at hs
  · rename_i x h1
    split at hs
    · rename_i d h3
      injection hs with hs
      subst hs
      have hx := h.val ho h1
      unfold un at h3
      split at h3
      · injection h3 with h3
        subst h3
        exact h.goes hd (by simp [execOp, hop, rep_int hx, Op.unary, Op.intArith]; done) (.int _ _)
      · injection h3 with h3
        subst h3
        exact h.goes hd (by simp [execOp, hop, rep_int hx, Op.unary, run_xor]; done) (.int _ _)
      · injection h3 with h3
        subst h3
        exact h.goes hd (by simp [execOp, hop, rep_bool hx, Op.unary]; done) (.bool _)
      · cases h3
    · cases hs
  · cases hs

/-- How a value of a type lies: in so many cells as a whole, or as one. -/
def szOf (P : Program) (t : TypeId) : Option (Option Nat) :=
  match P.underlying t, P.info? t with
  | some (.struct _), some i => some (some i.size)
  | some (.array _ _), some i => some (some i.size)
  | some _, some _ => some none
  | _, _ => none

theorem szOf_spec {t : TypeId} {sz : Option Nat} (h : szOf P t = some sz) : ∃ d i, P.underlying t = some d ∧ P.info? t = some i ∧
    ((∃ n, sz = some n ∧ i.size = n ∧ (isAgg t).run P w = .ok true w) ∨ (sz = none ∧ (isAgg t).run P w = .ok false w)) := by
  unfold szOf at h
  split at h
  · rename_i fs i h1 h2
    injection h with h
    exact ⟨_, i, h1, h2, .inl ⟨_, h.symm, rfl, by simp [isAgg, run_underlying h1]⟩⟩
  · rename_i n e i h1 h2
    injection h with h
    exact ⟨_, i, h1, h2, .inl ⟨_, h.symm, rfl, by simp [isAgg, run_underlying h1]⟩⟩
  · rename_i d i hn1 hn2 h1 h2
    injection h with h
    refine ⟨d, i, h1, h2, .inr ⟨h.symm, ?_⟩⟩
    cases d <;> first | exact (hn1 _ rfl).elim | exact (hn2 _ _ rfl).elim | simp [isAgg, run_underlying h1]
  · cases h

theorem run_sizeOf' {t : TypeId} {i : TypeInfo} (h : P.info? t = some i) : (sizeOf t).run P w = .ok i.size w := by simp [sizeOf, typeInfo, h]

theorem cut_spec {cs ds : List D} {off sz : Nat} (h : cut cs off sz = some ds) : off + sz ≤ cs.length ∧ ds = (cs.drop off).take sz := by
  unfold cut at h
  split at h
  · injection h with h; exact ⟨by assumption, h.symm⟩
  · cases h

theorem copy_one (d : D) : d.copy.one = d.one := by cases d <;> rfl

theorem copy_closed {d : D} : d.copy.closed = d.closed := by cases d <;> rfl

/-- A part of a whole. -/
theorem run_part {t : TypeId} {sz : Option Nat} {off : Nat} {cs ds : List D} {d : D} {vs : Array Value} {F : Nat → Nat} {j : List Nat} (hs : szOf P t = some sz) (hc : cut cs off (sz.getD 1) = some ds) (ho : ofCells sz ds = some d)
    (hr : Rep w F j (.agg cs) (.agg vs)) : ∃ v, (part t vs off).run P w = .ok v w ∧ Rep w F j d v := by
  obtain ⟨hl, rfl⟩ := cut_spec hc
  cases hr with
  | agg _ _ hlen hone hrep =>
  obtain ⟨_, i, _, hi, hcase⟩ := szOf_spec (w := w) hs
  rcases hcase with ⟨n, rfl, hn, hagg⟩ | ⟨rfl, hagg⟩
  · simp only [ofCells, Option.some.injEq] at ho
    simp only [Option.getD_some] at hl
    subst ho
    refine ⟨.agg (vs.extract off (off + n)), by simp [part, hagg, run_sizeOf' hi, hn], .agg _ _ ?_ ?_ ?_⟩
    · simp; omega
    · intro c hc
      simp only [List.mem_map] at hc
      obtain ⟨c', hc', rfl⟩ := hc
      rw [copy_one]
      exact hone _ (List.mem_of_mem_drop (List.mem_of_mem_take hc'))
    · intro k d' v' hd' hv'
      simp only [Option.getD_some, List.getElem?_map, Option.map_eq_some_iff] at hd'
      obtain ⟨d'', hd'', rfl⟩ := hd'
      rw [List.getElem?_take] at hd''
      split at hd''
      · rw [List.getElem?_drop] at hd''
        refine (hrep (off + k) d'' v' hd'' ?_).copy
        rw [Array.getElem?_extract] at hv'
        split at hv'
        · exact hv'
        · cases hv'
      · cases hd''
  · simp only [Option.getD_none] at hl ho
    have hlt : off < cs.length := by omega
    have e : (cs.drop off).take 1 = [cs[off]] := by
      rw [List.drop_eq_getElem_cons hlt]
      rfl
    rw [e] at ho
    simp only [ofCells, Option.some.injEq] at ho
    subst ho
    have hv : vs[off]? = some (vs[off]'(by omega)) := Array.getElem?_eq_getElem (by omega)
    exact ⟨_, by simp [part, hagg, hv], (hrep off _ _ (List.getElem?_eq_getElem hlt) hv).copy⟩

theorem goes_fld (h : Sim P N V c0 c σ a w) {aa : AO} {xa : Operand} {t : TypeId} {k off : Nat} {sz : Option Nat} {fs : Array Field} {f : Field} (ho : opr aa xa = true) (hop : o.op = .field t xa k)
    (hu : P.underlying t = some (.struct fs)) (hf : fs[k]? = some f) (hoff : f.offset = off) (hsz : szOf P f.type = some sz) (hd : dstOK N V o.dst = true)
    (hs : stepF (.fld off sz aa) o.dst σ = some σ') : Goes P N V c0 σ' a w o := by
  simp only [stepF] at hs
  split at hs
  · rename_i cs h1
    split at hs
    · rename_i ds h2
      split at hs
      · rename_i d h3
        injection hs with hs
        subst hs
        have hx := h.val ho h1
        cases hv : a.eval xa <;> rw [hv] at hx <;> try (cases hx; done)
        rename_i vs
        obtain ⟨v, k1, k2⟩ := run_part (P := P) hsz h2 h3 hx
        subst hoff
        exact h.goes hd (v := v) (by
          rw [h.hw] at k1
          simp [execOp, hop, hv, Instr.field, run_underlying hu, hf, asAgg, k1]) k2
      · cases hs
    · cases hs
  · cases hs

theorem goes_ixa (h : Sim P N V c0 c σ a w) {aa ai : AO} {xa xi : Operand} {t e : TypeId} {len : Nat} {sz : Option Nat} {i : TypeInfo} (ho : opr aa xa = true ∧ opr ai xi = true) (hop : o.op = .index t xa xi)
    (hu : P.underlying t = some (.array len e)) (hi : P.info? e = some i) (hsz : szOf P e = some sz) (hn : i.size = sz.getD 1) (hd : dstOK N V o.dst = true)
    (hs : stepF (.ixa len sz aa ai) o.dst σ = some σ') : Goes P N V c0 σ' a w o := by
  simp only [stepF] at hs
  split at hs
  · rename_i cs k m h1 hm
    split at hs
    · rename_i hb
      split at hs
      · rename_i ds h2
        split at hs
        · rename_i d h3
          injection hs with hs
          subst hs
          have hx := h.val ho.1 h1
          have hy := rep_int (h.val ho.2 hm)
          cases hv : a.eval xa <;> rw [hv] at hx <;> try (cases hx; done)
          rename_i vs
          obtain ⟨v, k1, k2⟩ := run_part (P := P) hsz h2 h3 hx
          rw [h.hw] at k1
          exact h.goes hd (v := v) (by
            simp [execOp, hop, hv, hy, Instr.index, asIntOf, run_underlying hu, run_sizeOf' hi, hn, hb, k1]) k2
        · cases hs
      · cases hs
    · cases hs
  · cases hs

theorem goes_ixs (h : Sim P N V c0 c σ a w) {aa ai : AO} {xa xi : Operand} {t : TypeId} (ho : opr aa xa = true ∧ opr ai xi = true) (hop : o.op = .index t xa xi)
    (hu : P.underlying t = some .string) (hd : dstOK N V o.dst = true)
    (hs : stepF (.ixs aa ai) o.dst σ = some σ') : Goes P N V c0 σ' a w o := by
  simp only [stepF] at hs
  split at hs
  · rename_i s k m h1 hm
    split at hs
    · rename_i hb
      split at hs
      · rename_i b h2
        injection hs with hs
        subst hs
        have hx := (rep_str (h.val ho.1 h1)).1
        have hy := rep_int (h.val ho.2 hm)
        have hg : (⟨s.toArray⟩ : ByteArray)[m.toNat]? = some b := by
          obtain ⟨hlt, he⟩ := List.getElem?_eq_some_iff.1 h2
          rw [getElem?_pos _ _ (by rw [size_ofList]; exact hlt)]
          rw [← he]
          rfl
        exact h.goes hd (v := .int .u8 b.toNat) (by
          simp [execOp, hop, hx, hy, Instr.index, asIntOf, run_underlying hu, hb, hg]) (.int _ _)
      · cases hs
    · cases hs
  · cases hs

theorem goes_ext (h : Sim P N V c0 c σ a w) {aa : AO} {xa : Operand} {k : Nat} (ho : opr aa xa = true) (hop : o.op = .extract xa k) (hd : dstOK N V o.dst = true)
    (hs : stepF (.ext aa k) o.dst σ = some σ') : Goes P N V c0 σ' a w o := by
  simp only [stepF] at hs
  split at hs
  · rename_i ds h1
    split at hs
    · rename_i d h2
      injection hs with hs
      subst hs
      have hx := h.val ho h1
      cases hv : a.eval xa <;> rw [hv] at hx <;> try (cases hx; done)
      rename_i vs
      cases hx with
      | tup _ _ hl hrep =>
      have hlt := (List.getElem?_eq_some_iff.1 h2).1
      have hv' : vs[k]? = some (vs[k]'(by omega)) := Array.getElem?_eq_getElem (by omega)
      exact h.goes hd (v := vs[k]'(by omega)) (by simp [execOp, hop, hv, Instr.extract, hv']) (hrep k d _ h2 hv')
    · cases hs
  · cases hs

theorem goes_conv_int (h : Sim P N V c0 c σ a w) {aa : AO} {xa : Operand} {s t : TypeId} {k : IntKind} {ds : TypeDesc} (ho : opr aa xa = true) (hop : o.op = .convert s t xa) (hu : P.underlying s = some ds) (hu' : P.underlying t = some (.int k)) (hd : dstOK N V o.dst = true)
    (hs : stepF (.conv (.int k) aa) o.dst σ = some σ') : Goes P N V c0 σ' a w o := by
  simp only [stepF] at hs
  split at hs
  · rename_i e1 h1
    cases e1
    injection hs with hs
    subst hs
    have hx := rep_int (h.val ho h1)
    exact h.goes hd (by simp [execOp, hop, hx, convert, run_underlying hu, run_underlying hu', Conv.intToInt]) (.int _ _)
  · rename_i e1 _; cases e1
  · rename_i e1 _; cases e1
  · rename_i e1 _; cases e1
  · cases hs

theorem goes_conv_same (h : Sim P N V c0 c σ a w) {aa : AO} {xa : Operand} {s t : TypeId} {ds : TypeDesc} (ho : opr aa xa = true) (hop : o.op = .convert s t xa) (hu : P.underlying s = some ds) (hu' : P.underlying t = some .string) (hd : dstOK N V o.dst = true)
    (hs : stepF (.conv .same aa) o.dst σ = some σ') : Goes P N V c0 σ' a w o := by
  simp only [stepF] at hs
  split at hs
  · rename_i e1 _; cases e1
  · rename_i e1 _; cases e1
  · rename_i e1 _; cases e1
  · rename_i e1 h1
    injection hs with hs
    subst hs
    obtain ⟨hx, hl⟩ := rep_str (h.val ho h1)
    exact h.goes hd (v := .string ⟨_⟩) (by
      cases ds <;> simp [execOp, hop, hx, convert, run_underlying hu, run_underlying hu']) (.str _ hl)
  · cases hs

theorem goes_mki (h : Sim P N V c0 c σ a w) {aa : AO} {xa : Operand} {t : TypeId} (ho : opr aa xa = true) (hop : o.op = .makeInterface t xa) (hc : P.concrete t = true) (hd : dstOK N V o.dst = true)
    (hs : stepF (.mki t aa) o.dst σ = some σ') : Goes P N V c0 σ' a w o := by
  simp only [stepF] at hs
  split at hs
  · rename_i d h1
    injection hs with hs
    subst hs
    exact h.goes hd (by simp [execOp, hop, run_makeInterface, hc]) (.iface _ _ _ (h.val ho h1))
  · cases hs

theorem goes_mkf (h : Sim P N V c0 c σ a w) {as : List AO} {xs : Array Operand} {f : Nat} (ho : oprs as xs.toList = true) (hop : o.op = .makeFunc (.func f) #[] xs) (hd : dstOK N V o.dst = true)
    (hs : stepF (.mkf f as) o.dst σ = some σ') : Goes P N V c0 σ' a w o := by
  simp only [stepF] at hs
  split at hs
  · rename_i ds h1
    injection hs with hs
    subst hs
    obtain ⟨k1, k2⟩ := h.vals ho h1
    refine h.goes hd (v := .func (.func f) #[] (xs.map a.eval)) (by simp [execOp, hop, Instr.makeFunc]) (.fn _ _ _ (by simpa using k1) fun i d v hd' hv => ?_)
    rw [Array.getElem?_map, Option.map_eq_some_iff] at hv
    obtain ⟨x, hx, rfl⟩ := hv
    exact k2 i d x hd' (by simpa using hx)
  · cases hs

theorem bound_spec (h : Sim P N V c0 c σ a w) {dflt n : Nat} {ao : Option AO} {x : Option Operand} (ho : match ao, x with | none, none => True | some ao, some x => opr ao x = true | _, _ => False) (hb : bound? σ dflt ao = some n) :
    (ao = none ∧ x = none ∧ n = dflt) ∨ ∃ y k, x = some y ∧ a.eval y = .int k (n : Int) := by
  cases ao with
  | none =>
    cases x with
    | none => simp [bound?] at hb; exact .inl ⟨rfl, rfl, hb.symm⟩
    | some x => exact ho.elim
  | some ao =>
    cases x with
    | none => exact ho.elim
    | some x =>
      simp only [bound?] at hb
      split at hb
      · rename_i k m hv
        split at hb
        · rename_i h0
          injection hb with hb
          subst hb
          have := rep_int (h.val ho hv)
          exact .inr ⟨x, k, rfl, by rw [this, Int.toNat_of_nonneg h0]⟩
        · cases hb
      · cases hb

/-- The bounds of a slice, reckoned. -/
theorem run_sliceBounds (isSlice : Bool) {l h' len cap : Nat} {xl xh : Option Operand} (hle : l ≤ h') (hcap : h' ≤ cap)
    (hl : (xl = none ∧ l = 0) ∨ ∃ y k, xl = some y ∧ a.eval y = .int k (l : Int)) (hh : (xh = none ∧ h' = len) ∨ ∃ y k, xh = some y ∧ a.eval y = .int k (h' : Int)) :
    (Instr.sliceBounds isSlice len cap (xl.map a.eval) (xh.map a.eval) none).run P w = .ok (l, h', cap) w := by
  have hb : ∀ (n y : Nat) (k : IntKind) (code : BoundsCode), n ≤ y → (Instr.sliceBound (.int k (n : Int)) y code).run P w = .ok n w := by
    intro n y k code hn
    simp [Instr.sliceBound, asIntOf, hn]
  rcases hl with ⟨rfl, rfl⟩ | ⟨yl, kl, rfl, hl⟩ <;> rcases hh with ⟨rfl, rfl⟩ | ⟨yh, kh, rfl, hh⟩
  · simp [Instr.sliceBounds]
  · simp [Instr.sliceBounds, hh, hb _ _ _ _ hcap]
  · simp [Instr.sliceBounds, hl, hb _ _ _ _ hle]
  · simp [Instr.sliceBounds, hl, hh, hb _ _ _ _ hcap, hb _ _ _ _ hle]

theorem goes_sls (h : Sim P N V c0 c σ a w) {aa : AO} {al ah : Option AO} {xa : Operand} {xl xh : Option Operand} {t : TypeId} (ho : opr aa xa = true)
    (hl : match al, xl with | none, none => True | some ao, some x => opr ao x = true | _, _ => False) (hh : match ah, xh with | none, none => True | some ao, some x => opr ao x = true | _, _ => False)
    (hop : o.op = .slice t xa xl xh none) (hu : P.underlying t = some .string) (hd : dstOK N V o.dst = true)
    (hs : stepF (.sls aa al ah) o.dst σ = some σ') : Goes P N V c0 σ' a w o := by
  simp only [stepF] at hs
  split at hs
  · rename_i s h1
    split at hs
    · rename_i l hi' k1 k2
      split at hs
      · rename_i hb
        injection hs with hs
        subst hs
        obtain ⟨hx, hlen⟩ := rep_str (h.val ho h1)
        have b1 := bound_spec h hl k1
        have b2 := bound_spec h hh k2
        have hrun := run_sliceBounds (P := P) (w := w) (a := a) false (l := l) (h' := hi') (len := s.length) (cap := s.length) hb.1 hb.2 (by rcases b1 with ⟨_, e, f⟩ | e; exact .inl ⟨e, f⟩; exact .inr e) (by rcases b2 with ⟨_, e, f⟩ | e; exact .inl ⟨e, f⟩; exact .inr e)
        refine h.goes hd (v := .string ⟨((s.drop l).take (hi' - l)).toArray⟩) ?_ (.str _ (by simp; omega))
        simp only [execOp, hop, hx, Option.map_none, Instr.sliceAt, Instr.slice, Sem.run_bind, run_underlying hu, Result.andThen_ok, size_ofList, Option.isSome_none, Bool.false_eq_true, if_false]
        rw [hrun]
        have e : (⟨s.toArray⟩ : ByteArray).extract l hi' = ⟨((s.drop l).take (hi' - l)).toArray⟩ := by
          apply ByteArray.ext
          simp [ByteArray.data_extract]
        simp only [Result.andThen_ok, Sem.run_pure, e]
      · cases hs
    · cases hs
  · cases hs

theorem run_min2 {mx : Bool} {x y d : D} {v u : Value} {F : Nat → Nat} {j : List Nat} (h : min2 mx x y = some d) (hx : Rep w F j x v) (hy : Rep w F j y u) :
    ∃ r, (if mx then Builtin.max2 v u else Builtin.min2 v u).run P w = .ok r w ∧ Rep w F j d r := by
  unfold min2 at h
  split at h
  · rename_i k p k' q
    split at h
    · rename_i hk
      subst hk
      injection h with h
      subst h
      rw [rep_int hx, rep_int hy]
      cases mx
      · exact ⟨_, rfl, .int _ _⟩
      · exact ⟨_, rfl, .int _ _⟩
    · cases h
  · cases h

theorem run_foldmin {mx : Bool} {F : Nat → Nat} {j : List Nat} : ∀ (ds : List D) (x d : D) (v : Value) (vs : List Value), ds.foldlM (min2 mx) x = some d → Rep w F j x v → ds.length = vs.length →
    (∀ (i : Nat) (d : D) (u : Value), ds[i]? = some d → vs[i]? = some u → Rep w F j d u) → ∃ r, (vs.foldlM (fun p q => if mx then Builtin.max2 p q else Builtin.min2 p q) v).run P w = .ok r w ∧ Rep w F j d r
  | [], x, d, v, vs, h, hx, hl, _ => by
    cases vs with
    | nil =>
      simp at h
      subst h
      exact ⟨v, by simp, hx⟩
    | cons _ _ => simp at hl
  | y :: ds, x, d, v, vs, h, hx, hl, hr => by
    cases vs with
    | nil => simp at hl
    | cons u vs =>
      rw [List.foldlM_cons] at h
      simp only [Option.bind_eq_bind, Option.bind_eq_some_iff] at h
      obtain ⟨m, h1, h2⟩ := h
      obtain ⟨r, k1, k2⟩ := run_min2 (P := P) h1 hx (hr 0 y u rfl rfl)
      obtain ⟨r', q1, q2⟩ := run_foldmin ds m d r vs h2 k2 (by simpa using hl) (fun i d u hd hu => hr (i + 1) d u hd hu)
      refine ⟨r', ?_, q2⟩
      rw [List.foldlM_cons, Sem.run_bind, k1]
      exact q1

theorem goes_minmax (h : Sim P N V c0 c σ a w) {mx : Bool} {as : List AO} {xs : Array Operand} {ts : Array TypeId} (ho : oprs as xs.toList = true) (hop : o.op = .call { callee := .builtin (if mx then .max else .min), args := xs, argTypes := ts })
    (hd : dstOK N V o.dst = true) (hs : stepF (.minmax mx as) o.dst σ = some σ') : Goes P N V c0 σ' a w o := by
  simp only [stepF] at hs
  split at hs
  · rename_i ds h1
    split at hs
    · rename_i d h2
      injection hs with hs
      subst hs
      obtain ⟨k1, k2⟩ := h.vals ho h1
      unfold minmaxOf at h2
      cases ds with
      | nil => cases h2
      | cons x ds =>
        simp only at h2
        cases hxs : xs.toList with
        | nil => rw [hxs] at k1; simp at k1
        | cons y ys =>
          rw [hxs] at k1 k2
          obtain ⟨r, q1, q2⟩ := run_foldmin (P := P) (mx := mx) ds x d (a.eval y) (ys.map a.eval) h2 (k2 0 x y rfl rfl) (by simpa using k1) (fun i d' u hd' hu => by
            rw [List.getElem?_map, Option.map_eq_some_iff] at hu
            obtain ⟨z, hz, rfl⟩ := hu
            exact k2 (i + 1) d' z hd' hz)
          rw [h.hw] at q1
          refine h.goes hd (v := r) ?_ q2
          cases mx
          · simp only [execOp, hop, resolve, invoke, builtin, Sem.run_bind, Sem.run_pure, Result.andThen_ok, Builtin.min_, Array.toList_map, hxs, List.map_cons]
            simp only [Bool.false_eq_true, if_false] at q1
            simp only [Bool.false_eq_true, if_false, Builtin.min_, Array.toList_map, hxs, List.map_cons, Sem.run_bind]
            have : (List.foldlM Builtin.min2 (a.eval y) (List.map a.eval ys)).run P w = .ok r w := q1
            rw [this]
            rfl
          · simp only [execOp, hop, resolve, invoke, builtin, Sem.run_bind, Sem.run_pure, Result.andThen_ok]
            simp only [if_true] at q1
            simp only [if_true, Builtin.max_, Array.toList_map, hxs, List.map_cons, Sem.run_bind]
            have : (List.foldlM Builtin.max2 (a.eval y) (List.map a.eval ys)).run P w = .ok r w := q1
            rw [this]
            rfl
    · cases hs
  · cases hs

/-- How long: with the bound that every length keeps. -/
theorem goes_len (h : Sim P N V c0 c σ a w) {aa : AO} {xa : Operand} {t : TypeId} {d : D} {n : Nat} {str : Bool} (ho : opr aa xa = true) (hop : o.op = .call { callee := .builtin .len, args := #[xa], argTypes := #[t] })
    (hu : if str then P.underlying t = some .string else ∃ e, P.underlying t = some (.slice e)) (hd : dstOK N V o.dst = true) (hv : σ.val aa = some d) (hn : d.len? str = some n) :
    n ≤ bnd ∧ Goes P N V c0 (σ.put o.dst (.d (.int .i64 (n : Int)))) a w o := by
  have hx := h.val ho hv
  have key : ∀ v, a.eval xa = v → (Builtin.len_ #[t] o.type #[v]).run P w = .ok (.int .i64 (n : Int)) w → Goes P N V c0 (σ.put o.dst (.d (.int .i64 (n : Int)))) a w o := by
    intro v e hr
    exact h.goes hd (by
      simp only [execOp, hop, resolve, invoke, builtin, Sem.run_bind, Sem.run_pure, Result.andThen_ok, List.map_toArray, List.map_cons, List.map_nil, e, hr]) (.int _ _)
  cases str
  · simp only [Bool.false_eq_true, if_false] at hu
    obtain ⟨e, he⟩ := hu
    cases hval : a.eval xa <;> rw [hval] at hx <;> cases hx <;> simp only [D.len?, Bool.false_eq_true, if_false] at hn <;> try (cases hn; done)
    all_goals
      injection hn with hn
      subst hn
      refine ⟨by first | assumption | simp [bnd], key _ hval (by simp [Builtin.len_, run_underlying he, goInt])⟩
  · simp only [if_true] at hu
    cases hval : a.eval xa <;> rw [hval] at hx <;> cases hx <;> simp only [D.len?, if_true] at hn <;> try (cases hn; done)
    case string.str s hl =>
      injection hn with hn
      subst hn
      exact ⟨hl, key _ hval (by simp [Builtin.len_, run_underlying hu, goInt, size_ofList])⟩

/-- A type whose values are compared as one cell of a kind. -/
def eqType (P : Program) (k : EqK) (t : TypeId) : Bool :=
  match k, P.underlying t with
  | .int, some (.int _) => true
  | .bool, some .bool => true
  | .str, some .string => true
  | .ptr, some (.pointer _) => true
  | .ifc, some (.interface _) => true
  | .fnc, some (.func _ _ _) => true
  | _, _ => false

theorem run_eqK {k : EqK} {t : TypeId} {x y : D} {v u : Value} {r : Bool} {F : Nat → Nat} {j : List Nat} (m : Nat) (ht : eqType P k t = true) (h : eqK k x y = some r) (hx : Rep w F j x v) (hy : Rep w F j y u) :
    (Op.equalIn (m + 1) t v u).run P w = .ok r w := by
  unfold eqType at ht
  unfold eqK at h
  split at h
  · split at h
    · rename_i hk
      subst hk
      injection h with h
      subst h
      split at ht <;> simp_all
      rename_i hu
      rw [rep_int hx, rep_int hy]
      simp [Op.equalIn, run_underlying hu]
    · cases h
  · injection h with h
    subst h
    split at ht <;> simp_all
    rename_i hu
    rw [rep_bool hx, rep_bool hy]
    simp [Op.equalIn, run_underlying hu]
  · injection h with h
    subst h
    split at ht <;> simp_all
    rename_i hu
    rw [(rep_str hx).1, (rep_str hy).1]
    simp [Op.equalIn, run_underlying hu, beq_toListBytes]
  all_goals first
    | (cases h; done)
    | (injection h with h
       subst h
       split at ht <;> simp_all
       rename_i hu
       cases hx <;> cases hy <;> simp [Op.equalIn, run_underlying hu])

end
end Go.Am
