/- Regions whose order is open: what reads alone comes to the same in any order. -/
import Derived.Test.YtgdjgoehofopnaaDoorAm16
import Derived.Orders
set_option linter.unusedSimpArgs false
set_option linter.unusedVariables false
set_option linter.unnecessarySimpa false
namespace Go.Am
open Go Go.Lib

def AO.tmp? : AO → List Nat
  | .t n | .x n => [n]
  | .k _ => []
def AO.tmps (as : List AO) : List Nat := as.flatMap AO.tmp?

/-- Operations that read alone: the temporaries that they look at. -/
def reads : AOp → Option (List Nat)
  | .mv a => some a.tmp?
  | .pick c a b => some (c.tmp? ++ a.tmp? ++ b.tmp?)
  | .build _ ps => some (ps.flatMap fun p => p.2.2.tmp?)
  | .bsl _ _ as => some (AO.tmps as)
  | .ld _ p => some [p]
  | .nilc p => some [p]
  | .bin _ a b => some (a.tmp? ++ b.tmp?)
  | .eqv _ _ _ a b => some (a.tmp? ++ b.tmp?)
  | .isnil _ a => some a.tmp?
  | .un _ a => some a.tmp?
  | .conv _ a => some a.tmp?
  | .mki _ a => some a.tmp?
  | .mkf _ as => some (AO.tmps as)
  | .fa p _ => some [p]
  | .fld _ _ a => some a.tmp?
  | .iaa _ _ p i => some (p :: i.tmp?)
  | .ias _ a i => some (a.tmp? ++ i.tmp?)
  | .ixa _ _ a i => some (a.tmp? ++ i.tmp?)
  | .ixs a i => some (a.tmp? ++ i.tmp?)
  | .ext a _ => some a.tmp?
  | .lenB _ a => some a.tmp?
  | .sls a l h => some (a.tmp? ++ (l.map AO.tmp?).getD [] ++ (h.map AO.tmp?).getD [])
  | .sll _ a l h => some (a.tmp? ++ (l.map AO.tmp?).getD [] ++ (h.map AO.tmp?).getD [])
  | .minmax _ as => some (AO.tmps as)
  | .app _ _ _ s a => some (s :: a.tmp?)
  | .ldv _ p r _ => some [p, r]
  | .ldi _ p => some [p]
  | .stv _ p r _ a => some (p :: r :: a.tmp?)
  | .alloc _ => some []
  | .ldr p r _ => some [p, r]
  | .callQ _ as => some (AO.tmps as)
  | .callvQ g as => some (g.tmp? ++ AO.tmps as)
  | _ => none

/-- Does it look at variables besides? -/
def readsV : AOp → Bool
  | .ld _ _ => true
  | _ => false

/-- The slot that an operation yields which reads alone. -/
def qv (op : AOp) (σ : St) : Option Slot :=
  match op with
  | .alloc _ => some .und
  | .mv a => match σ.give a with | some d => some (.d d) | none => none
  | .pick c a b => match σ.val c, σ.val a, σ.val b with
    | some (.bool c), some a, some b => some ((.d (if c then a else b)))
    | some (.bool true), some a, none => some ((.d a))
    | some (.bool false), none, some b => some ((.d b))
    | _, _, _ => none
  | .build z parts => match σ.fillParts z parts with
    | some cs => some ((.d (.agg cs)))
    | none => none
  | .bsl e sz parts => match σ.vals parts with
    | some ds => if ds.all (D.elem sz) then some ((.d (.own e ds))) else none
    | none => none
  | .ld sz p => match σ.lv p with
    | some l => match σ.rd l (sz.getD 1) with
      | some cs => match ofCells sz cs with | some d => some ((.d d)) | none => none
      | none => none
    | none => none
  | .nilc n => match σ.env n with
    | .d .nilp | .d .nili | .d .nilf => none
    | .d d => some ((.d d.copy))
    | .var _ => some ((.loc n 0))
    | .loc s o => some ((.loc s o))
    | .und => none
    | .no => none
  | .bin o a b => match σ.val a, σ.val b with
    | some x, some y => match bin o x y with | some d => some ((.d d)) | none => none
    | _, _ => none
  | .eqv neq k n a b => match σ.val a, σ.val b with
    | some x, some y => match deq k n x y with | some r => some ((.d (.bool (if neq then !r else r)))) | none => none
    | _, _ => none
  | .isnil neq a => match σ.val a with
    | some .nils => some ((.d (.bool !neq)))
    | some (.ref _ _ _ _) => some ((.d (.bool neq)))
    | some (.list (_ :: _)) => some ((.d (.bool neq)))
    | _ => none
  | .un o a => match σ.val a with
    | some x => match un o x with | some d => some ((.d d)) | none => none
    | none => none
  | .conv c a => match c, σ.val a with
    | .int k, some (.int _ n) => some ((.d (.int k (k.wrap n))))
    | .bytes, some (.str s) => some ((.d (.list (ofBytes s))))
    | .str, some d => match σ.elems 1 d with
      | some xs => match toBytes xs with | some s => some ((.d (.str s))) | none => none
      | none => none
    | .same, some (.str s) => some ((.d (.str s)))
    | _, _ => none
  | .mki t a => match σ.val a with | some d => some ((.d (.iface t d))) | none => none
  | .mkf f cs => match σ.vals cs with | some ds => some ((.d (.fn f ds))) | none => none
  | .fa p off => match σ.lv p with | some l => some ((l.move off)) | none => none
  | .fld off sz a => match σ.val a with
    | some (.agg cs) => match cut cs off (sz.getD 1) with
      | some ds => match ofCells sz ds with | some d => some ((.d d)) | none => none
      | none => none
    | _ => none
  | .iaa len sz p i => match σ.lv p, σ.val i with
    | some l, some (.int _ n) => if 0 ≤ n ∧ n < len then some ((l.move (n.toNat * sz))) else none
    | _, _ => none
  | .ias sz a i => match σ.val a, σ.val i with
    | some (.list xs), some (.int _ n) => if 0 ≤ n then match xs[n.toNat]? with
        | some x => if x.cells.length = sz then some ((.d (.imm x.cells))) else none
        | none => none
      else none
    | some (.ref b off len sz'), some (.int _ n) => if 0 ≤ n ∧ n < len ∧ sz' = sz then some ((.d (.ptr b (off + n.toNat * sz)))) else none
    | _, _ => none
  | .ixa len sz a i => match σ.val a, σ.val i with
    | some (.agg cs), some (.int _ n) => if 0 ≤ n ∧ n < len then match cut cs (n.toNat * (sz.getD 1)) (sz.getD 1) with
        | some ds => match ofCells sz ds with | some d => some ((.d d)) | none => none
        | none => none
      else none
    | _, _ => none
  | .ixs a i => match σ.val a, σ.val i with
    | some (.str s), some (.int _ n) => if 0 ≤ n then match s[n.toNat]? with
        | some b => some ((.d (.int .u8 (b.toNat : Int))))
        | none => none
      else none
    | _, _ => none
  | .ext a i => match σ.val a with
    | some (.tup ds) => match ds[i]? with | some d => some ((.d d)) | none => none
    | _ => none
  | .sls a lo hi => match σ.val a with
    | some (.str s) => match bound? σ 0 lo, bound? σ s.length hi with
      | some l, some h => if l ≤ h ∧ h ≤ s.length then some ((.d (.str ((s.drop l).take (h - l))))) else none
      | _, _ => none
    | _ => none
  | .sll sz a lo hi => match σ.val a with
    | some (.list xs) => match bound? σ 0 lo, bound? σ xs.length hi with
      | some l, some h => if l ≤ h ∧ h ≤ xs.length ∧ (xs.all (D.elem sz)) then some ((.d (.list ((xs.drop l).take (h - l))))) else none
      | _, _ => none
    | some .nils => match bound? σ 0 lo, bound? σ 0 hi with
      | some 0, some 0 => some ((.d (.list [])))
      | _, _ => none
    | some (.ref b off len sz') => match bound? σ 0 lo, bound? σ len hi with
      | some l, some h => if l < h ∧ h ≤ len ∧ sz' = sz then some ((.d (.ref b (off + l * sz) (h - l) sz)))
          else if l = h ∧ h ≤ len then some ((.d (.list []))) else none
      | _, _ => none
    | _ => none
  | .minmax mx as => match σ.vals as with
    | some ds => match minmaxOf mx ds with | some d => some ((.d d)) | none => none
    | none => none
  | .stv sz p r off a => match σ.lv p, σ.give a with
    | some (.var t o), some d => if t = r ∧ o = off ∧ d.cells.length = sz ∧ d.cells.all D.one then match σ.env r with
        | .var cs => match splice cs off d.cells with
          | some cs' => some (.d d)
          | none => none
        | _ => none
      else none
    | _, _ => none
  | .ldi sz p => match σ.lv p with
    | some (.var _ _) => none
    | some l => match σ.rd l (sz.getD 1) with
      | some cs => match ofCells sz cs with | some d => some ((.d d)) | none => none
      | none => none
    | none => none
  | .ldv sz p r off => match σ.lv p with
    | some (.var t o) => if t = r ∧ o = off then match σ.env r with
        | .var cs => match cut cs off (sz.getD 1) with
          | some ds => match ofCells sz ds with | some d => some ((.d d)) | none => none
          | none => none
        | _ => none
      else none
    | _ => none
  | .ldr p r off => match σ.lv p with
    | some (.var t o) => if t = r ∧ o = off then match σ.env r with
        | .var cs => match cut cs off 1 with
          | some [d] => some ((.d d))
          | _ => none
        | _ => none
      else none
    | _ => none
  | .lenB s a => match σ.val a with
    | some d => match d.len? s with
      | some n => if n ≤ 140737488351232 then some ((.d (.int .i64 (n : Int)))) else none
      | none => none
    | none => none
  | .app e sz bytes s a => match σ.env s with
    | .d (.own e' xs) => if e' = e then match σ.val a with
        | some y => match σ.elems sz y with
          | some ys => if (xs.length + ys.length) * bytes ≤ 140737488351232 ∧ xs.length + ys.length ≤ 140737488351232 ∧ (ys.all (D.elem sz)) then some ((.d (.own e (xs ++ ys)))) else none
          | none => none
        | none => none
      else none
    | _ => none
  | _ => none

def dullS : Slot → Slot
  | .d (.own _ xs) => .d (.list xs)
  | s => s
/-- A variable's slot behind a store. -/
def storeV (off : Nat) : Slot → Slot → Slot
  | .d d, .var cs => match splice cs off d.cells with
    | some cs' => .var cs'
    | none => .var cs
  | _, s => s
/-- The right that an append takes, or a load that takes it along; what is stored. -/
def dulls : AOp → Slot → Option (Nat × (Slot → Slot))
  | .app _ _ _ s _, _ => some (s, dullS)
  | .mv (.x n), _ => some (n, dullS)
  | .ldr _ r off, _ => some (r, dullV off)
  | .stv _ _ r off _, y => some (r, storeV off y)
  | _, _ => none
def St.dull (σ : St) : Option (Nat × (Slot → Slot)) → St
  | some (n, f) => { σ with env := upd σ.env n (f (σ.env n)) }
  | none => σ
def isSt : AOp → Bool
  | .stv .. => true
  | _ => false

/-- Alike, as far as some operation looks. -/
structure Alike (V : Nat → Bool) (av : Bool) (R : List Nat) (σ τ : St) : Prop where
  H : σ.H = τ.H
  r : ∀ n ∈ R, σ.env n = τ.env n
  v : av = true → ∀ n, V n = true → σ.env n = τ.env n

theorem Alike.mono {V : Nat → Bool} {av : Bool} {R R' : List Nat} {σ τ : St} (h : Alike V av R σ τ) (hs : ∀ n ∈ R', n ∈ R) : Alike V av R' σ τ := ⟨h.H, fun n hn => h.r n (hs n hn), h.v⟩

section
variable {V : Nat → Bool} {av : Bool} {R : List Nat} {σ τ : St}

theorem Alike.val (h : Alike V av R σ τ) {a : AO} (ha : ∀ n ∈ a.tmp?, n ∈ R) : σ.val a = τ.val a := by
  cases a with
  | t n => simp only [St.val]; rw [h.r n (ha n (by simp [AO.tmp?]))]
  | x n => simp only [St.val]; rw [h.r n (ha n (by simp [AO.tmp?]))]
  | k d => rfl
theorem Alike.give (h : Alike V av R σ τ) {a : AO} (ha : ∀ n ∈ a.tmp?, n ∈ R) : σ.give a = τ.give a := by
  cases a with
  | t n => simp only [St.give]; rw [h.r n (ha n (by simp [AO.tmp?]))]
  | x n => simp only [St.give]; rw [h.r n (ha n (by simp [AO.tmp?]))]
  | k d => rfl
theorem Alike.vals (h : Alike V av R σ τ) : ∀ {as : List AO}, (∀ n ∈ AO.tmps as, n ∈ R) → σ.vals as = τ.vals as
  | [], _ => rfl
  | a :: as, ha => by
    simp only [St.vals]
    rw [h.val (a := a) (fun n hn => ha n (by simp [AO.tmps, hn])), h.vals (as := as) (fun n hn => ha n (by simp only [AO.tmps, List.flatMap_cons, List.mem_append] at hn ⊢; exact .inr hn))]
theorem Alike.gives (h : Alike V av R σ τ) : ∀ {as : List AO}, (∀ n ∈ AO.tmps as, n ∈ R) → σ.gives as = τ.gives as
  | [], _ => rfl
  | a :: as, ha => by
    simp only [St.gives]
    rw [h.give (a := a) (fun n hn => ha n (by simp [AO.tmps, hn])), h.gives (as := as) (fun n hn => ha n (by simp only [AO.tmps, List.flatMap_cons, List.mem_append] at hn ⊢; exact .inr hn))]
theorem Alike.obj (h : Alike V av R σ τ) (b : Nat) : σ.obj b = τ.obj b := by simp only [St.obj, h.H]
theorem Alike.elems (h : Alike V av R σ τ) (sz : Nat) (d : D) : σ.elems sz d = τ.elems sz d := by
  unfold St.elems
  split <;> simp only [h.obj]
theorem Alike.fillParts (h : Alike V av R σ τ) : ∀ {ps : List (Nat × Nat × AO)} {z : List D}, (∀ n ∈ ps.flatMap fun p => p.2.2.tmp?, n ∈ R) → σ.fillParts z ps = τ.fillParts z ps
  | [], _, _ => rfl
  | (off, sz, a) :: ps, z, ha => by
    simp only [St.fillParts]
    rw [h.val (a := a) (fun n hn => ha n (by simp only [List.flatMap_cons, List.mem_append]; exact .inl hn))]
    split
    · split
      · split
        · exact h.fillParts fun n hn => ha n (by simp only [List.flatMap_cons, List.mem_append]; exact .inr hn)
        · rfl
      · rfl
    · rfl
theorem Alike.lv (h : Alike V av R σ τ) {p : Nat} (hp : p ∈ R) : σ.lv p = τ.lv p := by simp only [St.lv]; rw [h.r p hp]
theorem Alike.rd (h : Alike V av R σ τ) (hav : av = true) {p : Nat} {l : Lv} (hl : σ.lv p = some l) (hv : ∀ n t off, σ.env n = .loc t off → V t = true) (hvar : ∀ n cs, σ.env n = .var cs → V n = true) (sz : Nat) : σ.rd l sz = τ.rd l sz := by
  cases l with
  | var t off =>
    have hV : V t = true := by
      unfold St.lv at hl
      split at hl
      · injection hl with hl; injection hl with hl1 hl2; subst hl1; exact hvar p _ (by assumption)
      · injection hl with hl; injection hl with hl1 hl2; subst hl1; exact hv p _ _ (by assumption)
      · injection hl with hl; cases hl
      · injection hl with hl; cases hl
      · cases hl
    simp only [St.rd]
    rw [h.v hav t hV]
  | obj b off => simp only [St.rd, h.obj]
  | imm cs => rfl
theorem Alike.bound (h : Alike V av R σ τ) (dflt : Nat) {a : Option AO} (ha : ∀ n ∈ (a.map AO.tmp?).getD [], n ∈ R) : bound? σ dflt a = bound? τ dflt a := by
  cases a with
  | none => rfl
  | some a => simp only [bound?]; rw [h.val (a := a) (fun n hn => ha n (by simpa using hn))]

set_option maxHeartbeats 1000000 in
/-- What is yielded hangs on what is looked at alone. -/
theorem qv_congr {op : AOp} (hr : reads op = some R) (h : Alike V (readsV op) R σ τ) (hv : ∀ n t off, σ.env n = .loc t off → V t = true) (hvar : ∀ n cs, σ.env n = .var cs → V n = true) : qv op σ = qv op τ := by
  cases op <;> simp only [reads] at hr <;> try (cases hr; done)
  case mv a =>
    injection hr with hr; subst hr
    simp only [qv]
    rw [h.give (a := a) (fun n hn => hn)]
  case pick c a b =>
    injection hr with hr; subst hr
    simp only [qv]
    rw [h.val (a := c) (fun n hn => by simp [hn]), h.val (a := a) (fun n hn => by simp [hn]), h.val (a := b) (fun n hn => by simp [hn])]
  case build z ps =>
    injection hr with hr; subst hr
    simp only [qv]
    rw [h.fillParts (fun n hn => hn)]
  case bsl e sz as =>
    injection hr with hr; subst hr
    simp only [qv]
    rw [h.vals (fun n hn => hn)]
  case ld sz p =>
    injection hr with hr; subst hr
    simp only [qv]
    rw [← h.lv (p := p) (by simp)]
    split
    · rename_i l hl
      rw [h.rd rfl hl hv hvar]
    · rfl
  case nilc p =>
    injection hr with hr; subst hr
    simp only [qv]
    rw [h.r p (by simp)]
  case bin o a b =>
    injection hr with hr; subst hr
    simp only [qv]
    rw [h.val (a := a) (fun n hn => by simp [hn]), h.val (a := b) (fun n hn => by simp [hn])]
  case eqv o k n a b =>
    injection hr with hr; subst hr
    simp only [qv]
    rw [h.val (a := a) (fun n hn => by simp [hn]), h.val (a := b) (fun n hn => by simp [hn])]
  case isnil o a =>
    injection hr with hr; subst hr
    simp only [qv]
    rw [h.val (a := a) (fun n hn => hn)]
  case un o a =>
    injection hr with hr; subst hr
    simp only [qv]
    rw [h.val (a := a) (fun n hn => hn)]
  case conv cv a =>
    injection hr with hr; subst hr
    simp only [qv]
    rw [h.val (a := a) (fun n hn => hn)]
    split <;> try rfl
    rw [h.elems]
  case mki t a =>
    injection hr with hr; subst hr
    simp only [qv]
    rw [h.val (a := a) (fun n hn => hn)]
  case mkf f as =>
    injection hr with hr; subst hr
    simp only [qv]
    rw [h.vals (fun n hn => hn)]
  case fa p off =>
    injection hr with hr; subst hr
    simp only [qv]
    rw [h.lv (p := p) (by simp)]
  case fld off sz a =>
    injection hr with hr; subst hr
    simp only [qv]
    rw [h.val (a := a) (fun n hn => hn)]
  case iaa len sz p i =>
    injection hr with hr; subst hr
    simp only [qv]
    rw [h.lv (p := p) (by simp), h.val (a := i) (fun n hn => by simp [hn])]
  case ias sz a i =>
    injection hr with hr; subst hr
    simp only [qv]
    rw [h.val (a := a) (fun n hn => by simp [hn]), h.val (a := i) (fun n hn => by simp [hn])]
  case ixa len sz a i =>
    injection hr with hr; subst hr
    simp only [qv]
    rw [h.val (a := a) (fun n hn => by simp [hn]), h.val (a := i) (fun n hn => by simp [hn])]
  case ixs a i =>
    injection hr with hr; subst hr
    simp only [qv]
    rw [h.val (a := a) (fun n hn => by simp [hn]), h.val (a := i) (fun n hn => by simp [hn])]
  case ext a i =>
    injection hr with hr; subst hr
    simp only [qv]
    rw [h.val (a := a) (fun n hn => hn)]
  case lenB s a =>
    injection hr with hr; subst hr
    simp only [qv]
    rw [h.val (a := a) (fun n hn => hn)]
  case app e sz bytes s a =>
    injection hr with hr; subst hr
    simp only [qv]
    rw [h.r s (by simp), h.val (a := a) (fun n hn => by simp [hn])]
    split <;> try rfl
    split <;> try rfl
    split <;> try rfl
    rw [h.elems]
  case sls a l hh =>
    injection hr with hr; subst hr
    simp only [qv]
    rw [h.val (a := a) (fun n hn => by simp [hn])]
    split
    · rw [h.bound 0 (a := l) (fun n hn => by simp only [List.mem_append]; exact .inl (.inr hn)), h.bound _ (a := hh) (fun n hn => by simp only [List.mem_append]; exact .inr hn)]
    · rfl
  case sll sz a l hh =>
    injection hr with hr; subst hr
    simp only [qv]
    rw [h.val (a := a) (fun n hn => by simp [hn])]
    split
    · rw [h.bound 0 (a := l) (fun n hn => by simp only [List.mem_append]; exact .inl (.inr hn)), h.bound _ (a := hh) (fun n hn => by simp only [List.mem_append]; exact .inr hn)]
    · rw [h.bound 0 (a := l) (fun n hn => by simp only [List.mem_append]; exact .inl (.inr hn)), h.bound _ (a := hh) (fun n hn => by simp only [List.mem_append]; exact .inr hn)]
    · rw [h.bound 0 (a := l) (fun n hn => by simp only [List.mem_append]; exact .inl (.inr hn)), h.bound _ (a := hh) (fun n hn => by simp only [List.mem_append]; exact .inr hn)]
    · rfl
  case minmax mx as =>
    injection hr with hr; subst hr
    simp only [qv]
    rw [h.vals (fun n hn => hn)]
  case alloc z => rfl
  case stv sz p r off a =>
    injection hr with hr; subst hr
    simp only [qv]
    rw [h.lv (p := p) (by simp), h.r r (by simp), h.give (a := a) (fun n hn => by simp [hn])]
  case ldi sz p =>
    injection hr with hr; subst hr
    simp only [qv]
    rw [← h.lv (p := p) (by simp)]
    split
    · rfl
    · rename_i l hne hl
      have : σ.rd l (sz.getD 1) = τ.rd l (sz.getD 1) := by
        cases l with
        | var t o => exact absurd rfl (hne t o)
        | obj b off => simp only [St.rd, h.obj]
        | imm cs => rfl
      rw [this]
    · rfl
  case ldv sz p r off =>
    injection hr with hr; subst hr
    simp only [qv]
    rw [h.lv (p := p) (by simp), h.r r (by simp)]
  case ldr p r off =>
    injection hr with hr; subst hr
    simp only [qv]
    rw [h.lv (p := p) (by simp), h.r r (by simp)]
  case callQ f as => simp only [qv]
  case callvQ g as => simp only [qv]

set_option maxHeartbeats 1000000 in
/-- An operation that reads alone puts what it yields. -/
theorem quiet_step {op : AOp} (hr : reads op = some R) (dst : Option Nat) (hcall : ∀ f as, op ≠ .callQ f as) (hcallv : ∀ f as, op ≠ .callvQ f as) (hal : ∀ z, op ≠ .alloc z) (hst : isSt op = true → dst = none) : stepF op dst σ = (qv op σ).map (fun s => (σ.dull (dulls op s)).put dst s) := by
  cases op <;> simp only [reads] at hr <;> try (cases hr; done)
  case mv a =>
    clear hcall hcallv hal
    cases a with
    | t n => simp only [stepF, qv, St.spend, dulls, St.dull]; split <;> (rename_i e; simp only [e, Option.map_some, Option.map_none])
    | k d => simp only [stepF, qv, St.spend, dulls, St.dull]; split <;> (rename_i e; simp only [e, Option.map_some, Option.map_none])
    | x n =>
      have hsp : σ.spend (.x n) = σ.dull (some (n, dullS)) := by
        have hid : ∀ s : Slot, σ.env n = s → upd σ.env n s = σ.env := by
          intro s e
          funext m
          rw [upd]
          split
          · rename_i e'; rw [e', e]
          · rfl
        simp only [St.spend, St.dull]
        split
        · rename_i e xs he; rw [he]; rfl
        · rename_i hne
          have : dullS (σ.env n) = σ.env n := by
            unfold dullS
            split
            · rename_i e xs he; exact absurd he (hne _ _)
            · rfl
          rw [this, hid _ rfl]
      simp only [stepF, qv, dulls, hsp]
      split <;> (rename_i e; simp only [e, Option.map_some, Option.map_none])
  case callQ f as => exact absurd rfl (hcall _ _)
  case alloc z => exact absurd rfl (hal _)
  case callvQ f as => exact absurd rfl (hcallv _ _)
  case stv sz p r off a =>
    have := hst rfl
    subst this
    clear hcall hcallv hal hst
    simp only [stepF, qv, dulls, St.dull, St.put]
    repeat' (first | rfl | (split <;> (try simp only [*, Option.map_some, Option.map_none, if_true, if_false, and_self, storeV]) <;> try rfl))
  case ldr p r off =>
    clear hcall hcallv hal
    simp only [stepF, qv, dulls, St.dull]
    repeat' (first | rfl | (split <;> (try simp only [*, Option.map_some, Option.map_none, if_true, if_false, and_self]) <;> try rfl))
  case app e sz bytes s a =>
    clear hcall hcallv hal
    simp only [stepF, qv, dulls, St.dull]
    repeat' (first | rfl | (split <;> (try simp only [*, Option.map_some, Option.map_none, if_true, if_false, and_self, dullS]) <;> try rfl))
  all_goals
    clear hcall hcallv hal
    simp only [stepF, qv, dulls, St.dull]
    repeat' (first | rfl | (split <;> (try simp only [*, Option.map_some, Option.map_none, if_true, if_false, and_self]) <;> try rfl))
    all_goals (first | (simp_all; done) | omega)

/-- No slot of a variable is yielded, and no place but where what is looked at leads. -/
theorem qv_loc {M : Nat → Prop} {op : AOp} {s : Slot} (hr : reads op = some R) (h : qv op σ = some s) (hv : ∀ n ∈ R, ∀ t off, σ.env n = .loc t off → M t) (hvar : ∀ n ∈ R, ∀ cs, σ.env n = .var cs → M n) : (∀ cs, s ≠ .var cs) ∧ ∀ t off, s = .loc t off → M t := by
  have hl : ∀ p l k, p ∈ R → σ.lv p = some l → (∀ cs, l.move k ≠ .var cs) ∧ ∀ t off, l.move k = .loc t off → M t := by
    intro p l k hpR hp
    unfold St.lv at hp
    split at hp <;> (try (injection hp with hp; subst hp)) <;> refine ⟨fun cs e => ?_, fun t off e => ?_⟩ <;> simp only [Lv.move] at e <;> first | (cases e; done) | skip
    · injection e with e1 e2; subst e1; exact hvar p hpR _ (by assumption)
    · injection e with e1 e2; subst e1; exact hv p hpR _ _ (by assumption)
    all_goals cases hp
  cases op <;> simp only [qv] at h <;> try (cases h; done)
  case nilc p =>
    simp only [reads] at hr
    injection hr with hr
    subst hr
    split at h <;> try (cases h; done)
    · injection h with h; subst h; exact ⟨fun cs e => (by cases e), fun t off e => (by cases e)⟩
    · injection h with h; subst h; exact ⟨fun cs e => (by cases e), fun t off e => by injection e with e1 e2; subst e1; exact hvar p (by simp) _ (by assumption)⟩
    · injection h with h; subst h; exact ⟨fun cs e => (by cases e), fun t off e => by injection e with e1 e2; subst e1; exact hv p (by simp) _ _ (by assumption)⟩
  case fa p off =>
    simp only [reads] at hr
    injection hr with hr
    subst hr
    split at h <;> try (cases h; done)
    injection h with h; subst h; exact hl p _ _ (by simp) (by assumption)
  case iaa len sz p i =>
    simp only [reads] at hr
    injection hr with hr
    subst hr
    split at h <;> try (cases h; done)
    split at h <;> try (cases h; done)
    injection h with h; subst h; exact hl p _ _ (by simp) (by assumption)
  all_goals
    repeat' (split at h <;> try (cases h; done))
    all_goals (first | (injection h with h; subst h; exact ⟨fun cs e => (by cases e), fun t off e => (by cases e)⟩) | (exact absurd h (by simp)))

end
end Go.Am
