/- The check that an operation of the machine is one of the abstract machine's; contracts; one operation stepped. -/
import Derived.Test.YtgdjgoehofopnaaDoorAm13
set_option linter.unusedSimpArgs false
set_option linter.unusedVariables false
set_option linter.unnecessarySimpa false
namespace Go.Am
open Go Go.Lib

/-- What a call takes and what it makes of it. -/
def ARel (P : Program) (c : Cx) (ds : List D) (vs : Array Value) : Prop :=
  ds.length = vs.size ∧ ∀ (i : Nat) (d : D) (v : Value), ds[i]? = some d → vs[i]? = some v → CellRel P c (.slot i) d v

def funcOK (P : Program) (f : Nat) : Bool := match P.funcs[f]? with | some fn => fn.name != "runtime.NumGoroutine" && fn.body.isSome | none => false

/-- A contract: whatever the memory, the call returns a value that stands for r; the objects are H' then; nothing else has turned. -/
structure Ev (P : Program) (f : Nat) (ds : List D) (H : List (Option (List D))) (r : D) (H' : List (Option (List D))) : Prop where
  ok : funcOK P f = true
  go : ∀ (c : Cx) (vs : Array Value), Wf c → HRel P c H → ARel P c ds vs → Calls P f vs c.w fun e w' =>
    ∃ v c', e = .returned v ∧ c'.w = w' ∧ Fr c c' ∧ Wf c' ∧ HRel P c' H' ∧ CellRel P c' (.slot 0) r v

def oprO : Option AO → Option Operand → Bool
  | none, none => true
  | some a, some x => opr a x
  | _, _ => false

def elemTy (P : Program) (t : TypeId) : Option TypeId := match P.underlying t with | some (.slice e) => some e | _ => none
def isSliceT (P : Program) (t : TypeId) : Bool := match P.underlying t with | some (.slice _) => true | _ => false
def isStrT (P : Program) (t : TypeId) : Bool := match P.underlying t with | some .string => true | _ => false

def zeroOK (P : Program) (t : TypeId) (z : List D) : Bool :=
  match P.info? t with
  | some i => match i.zero with | some zv => constsOK z zv.cells.toList | none => false
  | none => false

def fieldOK (P : Program) (t : TypeId) (k off : Nat) : Option TypeId :=
  match P.underlying t with
  | some (.struct fs) => match fs[k]? with | some f => if f.offset = off then some f.type else none | none => none
  | _ => none

def sizeIs (P : Program) (t : TypeId) (n : Nat) : Bool := match P.info? t with | some i => i.size == n | none => false

/-- A call's operands: at most one of them hands a right on. -/
def isX : AO → Bool
  | .x _ => true
  | _ => false
def xs1 (as : List AO) : Bool := (as.filter isX).length ≤ 1

/-- Is it one? (But for its guard.) -/
def chkOp (P : Program) (N : Nat) (V : Nat → Bool) (op : AOp) (o : Oper) : Bool :=
  match op with
  | .mv a => dstOK N V o.dst && (match o.op with | .move x => opr a x | .assign x => opr a x | _ => false)
  | .pick c a b => dstOK N V o.dst && (match o.op with | .pick x y z => opr c x && opr a y && opr b z | _ => false)
  | .box a => (match o.dst with | some n => decide (n < N) && V n | none => false) && (match o.op with | .box _ x => opr a x | _ => false)
  | .boxH a => dstOK N V o.dst && (match o.op with | .box _ x => opr a x | _ => false)
  | .alloc z => (match o.dst with | some n => decide (n < N) && V n | none => false) && (match o.op with | .alloc t => zeroOK P t z | _ => false)
  | .allocH z => dstOK N V o.dst && (match o.op with | .alloc t => zeroOK P t z | _ => false)
  | .build z ps => dstOK N V o.dst && (match o.op with | .build t parts => buildOK P t z ps parts.toList | _ => false)
  | .bsl e sz as => dstOK N V o.dst && (match o.op with | .buildSlice t len parts => bslOK P t e sz len as parts.toList | _ => false)
  | .bslH sz as => dstOK N V o.dst && (match o.op with | .buildSlice t len parts => (match elemTy P t with | some e => bslOK P t e sz len as parts.toList | none => false) | _ => false)
  | .ld sz p => dstOK N V o.dst && (match o.op with | .load t x => opr (.t p) x && szOf P t == some sz | _ => false)
  | .ldx p => dstOK N V o.dst && (match o.op with | .load t x => opr (.t p) x && szOf P t == some none | _ => false)
  | .st sz p a => o.dst == none && (match o.op with | .store t x y => opr (.t p) x && opr a y && sizeIs P t sz | _ => false)
  | .nilc n => dstOK N V o.dst && (match o.op with | .nilCheck x => opr (.t n) x | _ => false)
  | .bin op a b => dstOK N V o.dst && (match o.op with | .binOp op' _ x y _ => op' == op && opr a x && opr b y | _ => false)
  | .eqv neq k n a b => dstOK N V o.dst && (match o.op with
    | .binOp op' t x y _ => op' == (if neq then .neq else .eql) && opr a x && opr b y && eqOK P k n t &&
        (n != 0 || (k != .int && k != .str && (k != .ifc || (match x with | .const _ => true | _ => false) || (match y with | .const _ => true | _ => false))))
    | _ => false)
  | .isnil neq a => dstOK N V o.dst && (match o.op with | .binOp op' t x (.const (.slice none 0 0)) _ => op' == (if neq then .neq else .eql) && opr a x && isSliceT P t | _ => false)
  | .un op a => dstOK N V o.dst && (match o.op with | .unOp op' _ x => op' == op && opr a x | _ => false)
  | .conv c a => dstOK N V o.dst && (match o.op with
    | .convert s t x => opr a x && (match c with
      | .int k => (P.underlying s).isSome && (match P.underlying t with | some (.int k') => k' == k | _ => false)
      | .bytes => (P.underlying s).isSome && (match elemTy P t with | some e => (match P.underlying e with | some (.int .u8) => true | _ => false) | none => false)
      | .str => isStrT P t && (match elemTy P s with | some e => (match P.underlying e with | some (.int .u8) => true | _ => false) | none => false)
      | .same => (P.underlying s).isSome && isStrT P t)
    | _ => false)
  | .mki t a => dstOK N V o.dst && (match o.op with | .makeInterface t' x => t' == t && opr a x && P.concrete t | _ => false)
  | .mkf f cs => dstOK N V o.dst && (match o.op with | .makeFunc (.func f') first xs => f' == f && first.isEmpty && oprs cs xs.toList | _ => false)
  | .mks e z bytes n => dstOK N V o.dst && (match o.op with
    | .makeSlice t x y => opr n x && opr n y && (match elemTy P t, P.info? e with
      | some e', some i => e' == e && i.bytes == bytes && decide (0 < i.size) && z.elem i.size && (match i.zero with | some zv => zv.cells.size == i.size && constsOK z.cells zv.cells.toList | none => false)
      | _, _ => false)
    | _ => false)
  | .mksH z bytes n => dstOK N V o.dst && (match o.op with
    | .makeSlice t x y => opr n x && opr n y && (match elemTy P t with
      | some e => (match P.info? e with
        | some i => i.bytes == bytes && decide (0 < i.size) && z.elem i.size && (match i.zero with | some zv => zv.cells.size == i.size && constsOK z.cells zv.cells.toList | none => false)
        | none => false)
      | _ => false)
    | _ => false)
  | .sls a lo hi => dstOK N V o.dst && (match o.op with | .slice t x l h none => opr a x && oprO lo l && oprO hi h && isStrT P t | _ => false)
  | .sll sz a lo hi => dstOK N V o.dst && (match o.op with | .slice t x l h none => opr a x && oprO lo l && oprO hi h && (match elemTy P t with | some e => sizeIs P e sz | none => false) | _ => false)
  | .fa p off => dstOK N V o.dst && (match o.op with | .fieldAddr t x k => opr (.t p) x && (match fieldOK P t k off with | some ft => (match P.info? ft with | some i => i.size != 0 | none => false) | none => false) | _ => false)
  | .fld off sz a => dstOK N V o.dst && (match o.op with | .field t x k => opr a x && (match fieldOK P t k off with | some ft => szOf P ft == some sz | none => false) | _ => false)
  | .iaa len sz p i => dstOK N V o.dst && (match o.op with | .indexAddr t x y => opr (.t p) x && opr i y && (match P.underlying t with | some (.array l e) => l == len && sizeIs P e sz | _ => false) | _ => false)
  | .ias sz a i => dstOK N V o.dst && (match o.op with | .indexAddr t x y => opr a x && opr i y && (match elemTy P t with | some e => sizeIs P e sz | none => false) | _ => false)
  | .ixa len sz a i => dstOK N V o.dst && (match o.op with | .index t x y => opr a x && opr i y && (match P.underlying t with | some (.array l e) => l == len && sizeIs P e (sz.getD 1) && szOf P e == some sz | _ => false) | _ => false)
  | .ixs a i => dstOK N V o.dst && (match o.op with | .index t x y => opr a x && opr i y && isStrT P t | _ => false)
  | .ext a i => dstOK N V o.dst && (match o.op with | .extract x k => opr a x && k == i | _ => false)
  | .len s a => dstOK N V o.dst && (match o.op with | .call ⟨.builtin .len, ⟨[x]⟩, ⟨[t]⟩⟩ => opr a x && (if s then isStrT P t else isSliceT P t) | _ => false)
  | .app e sz bytes s a => dstOK N V o.dst && (match o.op with
    | .call ⟨.builtin .append, ⟨[x, y]⟩, ⟨[t, t']⟩⟩ => opr (.x s) x && opr a y && isSliceT P t' && (match elemTy P t, P.info? e with
      | some e', some i => e' == e && i.size == sz && i.bytes == bytes && decide (0 < sz) && (match i.zero with | some zv => zv.cells.size == sz | none => false)
      | _, _ => false)
    | _ => false)
  | .appH .. => false
  | .cpy .. => false
  | .minmax mx as => dstOK N V o.dst && (match o.op with | .call ⟨.builtin b, xs, _⟩ => b == (if mx then .max else .min) && oprs as xs.toList | _ => false)
  | .call f as => dstOK N V o.dst && xs1 as && (match o.op with | .call ⟨.value (.func f'), xs, _⟩ => f' == f && oprs as xs.toList | _ => false)
  | .callv g as => dstOK N V o.dst && xs1 as && (match o.op with | .call ⟨.value x, xs, _⟩ => opr g x && oprs as xs.toList | _ => false)
  | .stv sz p _ _ a => a.notX && (o.dst == none && (match o.op with | .store t x y => opr (.t p) x && opr a y && sizeIs P t sz | _ => false))
  | .ldi sz p => dstOK N V o.dst && (match o.op with | .load t x => opr (.t p) x && szOf P t == some sz | _ => false)
  | .ldv sz p _ _ => dstOK N V o.dst && (match o.op with | .load t x => opr (.t p) x && szOf P t == some sz | _ => false)
  | .ldr p _ _ => dstOK N V o.dst && (match o.op with | .load t x => opr (.t p) x && szOf P t == some none | _ => false)
  | .lenB s a => dstOK N V o.dst && (match o.op with | .call ⟨.builtin .len, ⟨[x]⟩, ⟨[t]⟩⟩ => opr a x && (if s then isStrT P t else isSliceT P t) | _ => false)
  | .callQ f as => as.all AO.notX && (dstOK N V o.dst && xs1 as && (match o.op with | .call ⟨.value (.func f'), xs, _⟩ => f' == f && oprs as xs.toList | _ => false))
  | .callvQ g as => as.all AO.notX && (dstOK N V o.dst && xs1 as && (match o.op with | .call ⟨.value x, xs, _⟩ => opr g x && oprs as xs.toList | _ => false))
  | .bad => false

section
variable {P : Program} {N : Nat} {V : Nat → Bool} {c0 c : Cx} {σ σ' : St} {a : Act} {w : World} {o : Oper}

theorem elemTy_spec {t e : TypeId} (h : elemTy P t = some e) : P.underlying t = some (.slice e) := by
  unfold elemTy at h
  split at h
  · injection h with h; subst h; assumption
  · cases h
theorem isStrT_spec {t : TypeId} (h : isStrT P t = true) : P.underlying t = some .string := by
  unfold isStrT at h
  split at h
  · assumption
  · cases h
theorem isSliceT_spec {t : TypeId} (h : isSliceT P t = true) : ∃ e, P.underlying t = some (.slice e) := by
  unfold isSliceT at h
  split at h
  · exact ⟨_, by assumption⟩
  · cases h
theorem sizeIs_spec {t : TypeId} {n : Nat} (h : sizeIs P t n = true) : ∃ i, P.info? t = some i ∧ i.size = n := by
  unfold sizeIs at h
  split at h
  · exact ⟨_, by assumption, by simpa using h⟩
  · cases h
theorem fieldOK_spec {t ft : TypeId} {k off : Nat} (h : fieldOK P t k off = some ft) : ∃ fs f, P.underlying t = some (.struct fs) ∧ fs[k]? = some f ∧ f.offset = off ∧ f.type = ft := by
  unfold fieldOK at h
  split at h
  · split at h
    · split at h
      · injection h with h
        exact ⟨_, _, by assumption, by assumption, by assumption, h⟩
      · cases h
    · cases h
  · cases h
theorem oprO_spec {a : Option AO} {x : Option Operand} (h : oprO a x = true) : boundsOK a x := by
  cases a <;> cases x <;> simp_all [oprO, boundsOK]
theorem zeroOK_spec {t : TypeId} {z : List D} (h : zeroOK P t z = true) : ∃ i zv, P.info? t = some i ∧ i.zero = some zv ∧ constsOK z zv.cells.toList = true := by
  unfold zeroOK at h
  split at h
  · split at h
    · exact ⟨_, _, by assumption, by assumption, h⟩
    · cases h
  · cases h

set_option maxHeartbeats 1000000 in
/-- One operation that calls nothing. -/
theorem op_goes (h : Sim P N V c0 c σ a w) {op : AOp} (hc : chkOp P N V op o = true) (hs : stepF op o.dst σ = some σ') : Goes P N V c0 σ' a w o := by
  cases op <;> simp only [chkOp, Bool.and_eq_true] at hc
  case mv a' =>
    obtain ⟨hd, hc⟩ := hc
    split at hc
    · exact goes_mv h hc (.inl (by assumption)) hd hs
    · exact goes_mv h hc (.inr (by assumption)) hd hs
    · cases hc
  case pick c' a' b' =>
    obtain ⟨hd, hc⟩ := hc
    split at hc
    · simp only [Bool.and_eq_true] at hc
      exact goes_pick h ⟨hc.1.1, hc.1.2, hc.2⟩ (by assumption) hd hs
    · cases hc
  case box a' =>
    obtain ⟨hd, hc⟩ := hc
    split at hd
    · rw [Bool.and_eq_true, decide_eq_true_eq] at hd
      split at hc
      · exact goes_box h hc (by assumption) (by assumption) hd.1 hd.2 hs
      · cases hc
    · cases hd
  case boxH a' =>
    obtain ⟨hd, hc⟩ := hc
    split at hc
    · exact goes_boxH h hc (by assumption) hd hs
    · cases hc
  case alloc z =>
    obtain ⟨hd, hc⟩ := hc
    split at hd
    · rw [Bool.and_eq_true, decide_eq_true_eq] at hd
      split at hc
      · obtain ⟨i, zv, h1, h2, h3⟩ := zeroOK_spec hc
        exact goes_alloc h h1 h2 h3 (by assumption) (by assumption) hd.1 hd.2 hs
      · cases hc
    · cases hd
  case allocH z =>
    obtain ⟨hd, hc⟩ := hc
    split at hc
    · obtain ⟨i, zv, h1, h2, h3⟩ := zeroOK_spec hc
      exact goes_allocH h h1 h2 h3 (by assumption) hd hs
    · cases hc
  case build z ps =>
    obtain ⟨hd, hc⟩ := hc
    split at hc
    · exact goes_build h (by assumption) hc hd hs
    · cases hc
  case bsl e sz as =>
    obtain ⟨hd, hc⟩ := hc
    split at hc
    · exact goes_bsl h (by assumption) hc hd hs
    · cases hc
  case bslH sz as =>
    obtain ⟨hd, hc⟩ := hc
    split at hc
    · split at hc
      · exact goes_bslH h (by assumption) hc hd hs
      · cases hc
    · cases hc
  case ld sz p =>
    obtain ⟨hd, hc⟩ := hc
    split at hc
    · rw [Bool.and_eq_true, beq_iff_eq] at hc
      exact goes_ld h hc.1 (by assumption) hc.2 hd hs
    · cases hc
  case ldx p =>
    obtain ⟨hd, hc⟩ := hc
    split at hc
    · rw [Bool.and_eq_true, beq_iff_eq] at hc
      exact goes_ldx h hc.1 (by assumption) hc.2 hd hs
    · cases hc
  case st sz p a' =>
    obtain ⟨hd, hc⟩ := hc
    split at hc
    · rw [Bool.and_eq_true, Bool.and_eq_true] at hc
      obtain ⟨i, h1, h2⟩ := sizeIs_spec hc.2
      exact goes_st h hc.1.1 hc.1.2 (by assumption) h1 h2 (by simpa using hd) hs
    · cases hc
  case nilc n =>
    obtain ⟨hd, hc⟩ := hc
    split at hc
    · exact goes_nilc h hc (by assumption) hd hs
    · cases hc
  case bin op a' b' =>
    obtain ⟨hd, hc⟩ := hc
    split at hc
    · rename_i op' t x y t' hop
      rw [Bool.and_eq_true, Bool.and_eq_true, beq_iff_eq] at hc
      obtain ⟨⟨rfl, h1⟩, h2⟩ := hc
      exact goes_bin h ⟨h1, h2⟩ hop hd hs
    · cases hc
  case eqv neq k n a' b' =>
    obtain ⟨hd, hc⟩ := hc
    split at hc
    · rename_i op' t x y t' hop
      simp only [Bool.and_eq_true, beq_iff_eq, Bool.or_eq_true, bne_iff_ne, ne_eq] at hc
      obtain ⟨⟨⟨⟨rfl, h1⟩, h2⟩, h3⟩, h4⟩ := hc
      refine goes_eqv h ⟨h1, h2⟩ hop (fun hn => ?_) h3 hd hs
      rcases h4 with h4 | h4
      · exact absurd hn h4
      · refine ⟨h4.1.1, h4.1.2, fun hk => ?_⟩
        rcases h4.2 with (h5 | h5) | h5
        · exact absurd hk h5
        · left
          split at h5
          · exact ⟨_, rfl⟩
          · cases h5
        · right
          split at h5
          · exact ⟨_, rfl⟩
          · cases h5
    · cases hc
  case isnil neq a' =>
    obtain ⟨hd, hc⟩ := hc
    split at hc
    · rename_i op' t x t' hop
      simp only [Bool.and_eq_true, beq_iff_eq] at hc
      obtain ⟨⟨rfl, h1⟩, h2⟩ := hc
      obtain ⟨e, he⟩ := isSliceT_spec h2
      exact goes_isnil h h1 hop he hd hs
    · cases hc
  case un op a' =>
    obtain ⟨hd, hc⟩ := hc
    split at hc
    · rename_i op' t x hop
      rw [Bool.and_eq_true, beq_iff_eq] at hc
      obtain ⟨rfl, h1⟩ := hc
      exact goes_un h h1 hop hd hs
    · cases hc
  case conv cv a' =>
    obtain ⟨hd, hc⟩ := hc
    split at hc
    · rename_i s t x hop
      rw [Bool.and_eq_true] at hc
      obtain ⟨h1, hc⟩ := hc
      cases cv with
      | int k =>
        simp only [Bool.and_eq_true] at hc
        obtain ⟨h2, hc⟩ := hc
        obtain ⟨ds, h2⟩ := Option.isSome_iff_exists.1 h2
        split at hc
        · rename_i k' hk
          rw [beq_iff_eq] at hc
          subst hc
          exact goes_conv_int h h1 hop h2 hk hd hs
        · cases hc
      | bytes =>
        simp only [Bool.and_eq_true] at hc
        obtain ⟨h2, hc⟩ := hc
        obtain ⟨ds, h2⟩ := Option.isSome_iff_exists.1 h2
        split at hc
        · rename_i e he
          split at hc
          · exact goes_conv_bytes h h1 hop h2 (elemTy_spec he) (by assumption) hd hs
          · cases hc
        · cases hc
      | str =>
        simp only [Bool.and_eq_true] at hc
        obtain ⟨h2, hc⟩ := hc
        split at hc
        · rename_i e he
          split at hc
          · exact goes_conv_str h h1 hop (elemTy_spec he) (by assumption) (isStrT_spec h2) hd hs
          · cases hc
        · cases hc
      | same =>
        simp only [Bool.and_eq_true] at hc
        obtain ⟨ds, h2⟩ := Option.isSome_iff_exists.1 hc.1
        exact goes_conv_same h h1 hop h2 (isStrT_spec hc.2) hd hs
    · cases hc
  case mki t a' =>
    obtain ⟨hd, hc⟩ := hc
    split at hc
    · rename_i t' x hop
      simp only [Bool.and_eq_true, beq_iff_eq] at hc
      obtain ⟨⟨rfl, h1⟩, h2⟩ := hc
      exact goes_mki h h1 hop h2 hd hs
    · cases hc
  case mkf f cs =>
    obtain ⟨hd, hc⟩ := hc
    split at hc
    · rename_i f' first xs hop
      simp only [Bool.and_eq_true, beq_iff_eq] at hc
      obtain ⟨⟨rfl, h1⟩, h2⟩ := hc
      have : first = #[] := by simpa using h1
      subst this
      exact goes_mkf h h2 hop hd hs
    · cases hc
  case mks e z bytes n =>
    obtain ⟨hd, hc⟩ := hc
    split at hc
    · rename_i t x y hop
      simp only [Bool.and_eq_true] at hc
      obtain ⟨⟨h1, h1'⟩, hc⟩ := hc
      split at hc
      · rename_i e' i he hi
        simp only [Bool.and_eq_true, beq_iff_eq, decide_eq_true_eq] at hc
        obtain ⟨⟨⟨⟨rfl, h2⟩, h3⟩, h4⟩, h5⟩ := hc
        split at h5
        · rename_i zv hz
          simp only [Bool.and_eq_true, beq_iff_eq] at h5
          exact goes_mks h h1 h1' hop (elemTy_spec he) hi h2 hz h5.1 h3 h5.2 h4 hd hs
        · cases h5
      · cases hc
    · cases hc
  case mksH z bytes n =>
    obtain ⟨hd, hc⟩ := hc
    split at hc
    · rename_i t x y hop
      simp only [Bool.and_eq_true] at hc
      obtain ⟨⟨h1, h1'⟩, hc⟩ := hc
      split at hc
      · rename_i e he
        split at hc
        · rename_i i hi
          simp only [Bool.and_eq_true, beq_iff_eq, decide_eq_true_eq] at hc
          obtain ⟨⟨⟨h2, h3⟩, h4⟩, h5⟩ := hc
          split at h5
          · rename_i zv hz
            simp only [Bool.and_eq_true, beq_iff_eq] at h5
            exact goes_mksH h h1 h1' hop (elemTy_spec he) hi h2 hz h5.1 h3 h5.2 h4 hd hs
          · cases h5
        · cases hc
      · cases hc
    · cases hc
  case sls a' lo hi =>
    obtain ⟨hd, hc⟩ := hc
    split at hc
    · simp only [Bool.and_eq_true] at hc
      exact goes_sls h hc.1.1.1 (oprO_spec hc.1.1.2) (oprO_spec hc.1.2) (by assumption) (isStrT_spec hc.2) hd hs
    · cases hc
  case sll sz a' lo hi =>
    obtain ⟨hd, hc⟩ := hc
    split at hc
    · simp only [Bool.and_eq_true] at hc
      obtain ⟨⟨⟨h1, h2⟩, h3⟩, hc⟩ := hc
      split at hc
      · rename_i e he
        obtain ⟨i, h4, h5⟩ := sizeIs_spec hc
        exact goes_sll h h1 (oprO_spec h2) (oprO_spec h3) (by assumption) (elemTy_spec he) h4 h5 hd hs
      · cases hc
    · cases hc
  case fa p off =>
    obtain ⟨hd, hc⟩ := hc
    split at hc
    · simp only [Bool.and_eq_true] at hc
      obtain ⟨h1, hc⟩ := hc
      split at hc
      · rename_i ft hf
        obtain ⟨fs, f, h2, h3, h4, h5⟩ := fieldOK_spec hf
        split at hc
        · rename_i i hi
          exact goes_fa h h1 (by assumption) h2 h3 h4 (by rw [h5]; exact hi) (by simpa using hc) hd hs
        · cases hc
      · cases hc
    · cases hc
  case fld off sz a' =>
    obtain ⟨hd, hc⟩ := hc
    split at hc
    · simp only [Bool.and_eq_true] at hc
      obtain ⟨h1, hc⟩ := hc
      split at hc
      · rename_i ft hf
        obtain ⟨fs, f, h2, h3, h4, h5⟩ := fieldOK_spec hf
        rw [beq_iff_eq] at hc
        exact goes_fld h h1 (by assumption) h2 h3 h4 (by rw [h5]; exact hc) hd hs
      · cases hc
    · cases hc
  case iaa len sz p i =>
    obtain ⟨hd, hc⟩ := hc
    split at hc
    · simp only [Bool.and_eq_true] at hc
      obtain ⟨⟨h1, h2⟩, hc⟩ := hc
      split at hc
      · rename_i l e he
        rw [Bool.and_eq_true, beq_iff_eq] at hc
        obtain ⟨rfl, hc⟩ := hc
        obtain ⟨i', h4, h5⟩ := sizeIs_spec hc
        exact goes_iaa h ⟨h1, h2⟩ (by assumption) he h4 h5 hd hs
      · cases hc
    · cases hc
  case ias sz a' i =>
    obtain ⟨hd, hc⟩ := hc
    split at hc
    · simp only [Bool.and_eq_true] at hc
      obtain ⟨⟨h1, h2⟩, hc⟩ := hc
      split at hc
      · rename_i e he
        obtain ⟨i', h4, h5⟩ := sizeIs_spec hc
        exact goes_ias h ⟨h1, h2⟩ (by assumption) (elemTy_spec he) h4 h5 hd hs
      · cases hc
    · cases hc
  case ixa len sz a' i =>
    obtain ⟨hd, hc⟩ := hc
    split at hc
    · simp only [Bool.and_eq_true] at hc
      obtain ⟨⟨h1, h2⟩, hc⟩ := hc
      split at hc
      · rename_i l e he
        simp only [Bool.and_eq_true, beq_iff_eq] at hc
        obtain ⟨⟨rfl, h3⟩, h6⟩ := hc
        obtain ⟨i', h4, h5⟩ := sizeIs_spec h3
        exact goes_ixa h ⟨h1, h2⟩ (by assumption) he h4 h6 h5 hd hs
      · cases hc
    · cases hc
  case ixs a' i =>
    obtain ⟨hd, hc⟩ := hc
    split at hc
    · simp only [Bool.and_eq_true] at hc
      exact goes_ixs h hc.1 (by assumption) (isStrT_spec hc.2) hd hs
    · cases hc
  case ext a' i =>
    obtain ⟨hd, hc⟩ := hc
    split at hc
    · rename_i x k hop
      rw [Bool.and_eq_true, beq_iff_eq] at hc
      obtain ⟨h1, rfl⟩ := hc
      exact goes_ext h h1 hop hd hs
    · cases hc
  case app e sz bytes s a' =>
    obtain ⟨hd, hc⟩ := hc
    split at hc
    · rename_i x y t t' hop
      simp only [Bool.and_eq_true] at hc
      obtain ⟨⟨⟨h1, h2⟩, h3⟩, hc⟩ := hc
      split at hc
      · rename_i e' i he hi
        simp only [Bool.and_eq_true, beq_iff_eq, decide_eq_true_eq] at hc
        obtain ⟨⟨⟨⟨rfl, h4⟩, h5⟩, h6⟩, h7⟩ := hc
        split at h7
        · rename_i zv hz
          rw [beq_iff_eq] at h7
          exact goes_app h h1 h2 hop (elemTy_spec he) (isSliceT_spec h3) hi h4 h5 hz h7 h6 hd hs
        · cases h7
      · cases hc
    · cases hc
  case minmax mx as =>
    obtain ⟨hd, hc⟩ := hc
    split at hc
    · rename_i b xs ts hop
      rw [Bool.and_eq_true, beq_iff_eq] at hc
      obtain ⟨rfl, h1⟩ := hc
      exact goes_minmax h h1 hop hd hs
    · cases hc
  case len => simp [stepF] at hs
  case call => simp [stepF] at hs
  case callv => simp [stepF] at hs
  case stv sz p r off a' =>
    obtain ⟨hx, hd, hc⟩ := hc
    split at hc
    · rw [Bool.and_eq_true, Bool.and_eq_true] at hc
      obtain ⟨i, h1, h2⟩ := sizeIs_spec hc.2
      refine goes_st h hc.1.1 hc.1.2 (by assumption) h1 h2 (by simpa using hd) ?_
      have hsp : σ.spend a' = σ := by cases a' <;> first | rfl | cases hx
      simp only [stepF] at hs ⊢
      split at hs
      · rename_i t off' d hl hg
        split at hs
        · rename_i he
          obtain ⟨rfl, rfl, h3, h4⟩ := he
          split at hs
          · rename_i cs hcs
            rw [hl, hg]
            simp only [h3, h4, hsp, St.wr, hcs, decide_true, Bool.and_self, if_true]
            exact hs
          · cases hs
        · cases hs
      · cases hs
    · cases hc
  case ldi sz p =>
    obtain ⟨hd, hc⟩ := hc
    split at hc
    · rw [Bool.and_eq_true, beq_iff_eq] at hc
      refine goes_ld h hc.1 (by assumption) hc.2 hd (n := p) ?_
      simp only [stepF] at hs ⊢
      split at hs
      · cases hs
      · rename_i l _ hl
        rw [hl]
        exact hs
      · cases hs
    · cases hc
  case ldv sz p r off =>
    obtain ⟨hd, hc⟩ := hc
    split at hc
    · rw [Bool.and_eq_true, beq_iff_eq] at hc
      refine goes_ld h hc.1 (by assumption) hc.2 hd (n := p) ?_
      simp only [stepF] at hs ⊢
      split at hs
      · rename_i t off' hl
        split at hs
        · rename_i he
          obtain ⟨rfl, rfl⟩ := he
          split at hs
          · rename_i cs hcs
            rw [hl]
            simp only [St.rd, hcs]
            exact hs
          · cases hs
        · cases hs
      · cases hs
    · cases hc
  case ldr p r off =>
    obtain ⟨hd, hc⟩ := hc
    split at hc
    · rw [Bool.and_eq_true, beq_iff_eq] at hc
      refine goes_ldx h hc.1 (by assumption) hc.2 hd (n := p) ?_
      simp only [stepF] at hs ⊢
      split at hs
      · rename_i t off' hl
        split at hs
        · rename_i he
          obtain ⟨rfl, rfl⟩ := he
          split at hs
          · rename_i cs hcs
            rw [hl]
            simp only [St.rd, St.wr, hcs]
            split at hs
            · rename_i d hcut
              rw [hcut]
              cases d with
              | own e xs =>
                simp only [dullV, hcut] at hs ⊢
                have : ∃ cs', splice cs off' [.list xs] = some cs' := by
                  unfold cut at hcut
                  split at hcut
                  · rename_i hle
                    exact ⟨_, if_pos (by simpa using hle)⟩
                  · cases hcut
                obtain ⟨cs', hsp⟩ := this
                rw [hsp] at hs ⊢
                exact hs
              | _ =>
                have hid : ∀ s : Slot, s = .var cs → upd σ.env t s = σ.env := by
                  intro s e
                  funext m
                  rw [upd]
                  split
                  · rename_i e'; rw [e', e]; exact hcs.symm
                  · rfl
                simp only [dullV, hcut] at hs ⊢
                rw [hid _ rfl] at hs
                exact hs
            · cases hs
          · cases hs
        · cases hs
      · cases hs
    · cases hc
  case callQ => simp [stepF] at hs
  case callvQ => simp [stepF] at hs
  case lenB str aa =>
    obtain ⟨hd, hc⟩ := hc
    split at hc
    · rename_i x t hop
      rw [Bool.and_eq_true] at hc
      obtain ⟨ho, ht⟩ := hc
      simp only [stepF] at hs
      split at hs
      · rename_i d hv
        split at hs
        · rename_i n hlen
          split at hs
          · injection hs with hs
            subst hs
            have hu : if str then P.underlying t = some .string else ∃ e, P.underlying t = some (.slice e) := by
              cases str
              · simp only [Bool.false_eq_true, if_false] at ht ⊢
                exact isSliceT_spec ht
              · simp only [if_true] at ht ⊢
                exact isStrT_spec ht
            exact (goes_len h ho hop hu hd hv hlen).2
          · cases hs
        · cases hs
      · cases hs
    · cases hc
  all_goals cases hc

end
end Go.Am
