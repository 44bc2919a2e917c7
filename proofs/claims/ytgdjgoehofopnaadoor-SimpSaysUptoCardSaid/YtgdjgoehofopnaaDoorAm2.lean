/- How values, states and worlds of the machine stand for those of the abstract machine, and what keeps that. -/
import Derived.Test.YtgdjgoehofopnaaDoorAm1
set_option linter.unusedSimpArgs false
set_option linter.unusedVariables false
namespace Go.Am
open Go

abbrev bnd : Nat := 140737488351232

/-- A machine's value stands for an abstract one. F: how many cells of a block are written no more. j: the objects' blocks. -/
inductive Rep (w : World) (F : Nat → Nat) (j : List Nat) : D → Value → Prop
  | bool (b : Bool) : Rep w F j (.bool b) (.bool b)
  | int (k : IntKind) (n : Int) : Rep w F j (.int k n) (.int k n)
  | flt (k : FloatKind) (n : Nat) : Rep w F j (.flt k n) (.float k n)
  | str (s : List UInt8) (h : s.length ≤ bnd) : Rep w F j (.str s) (.string ⟨s.toArray⟩)
  | nilp : Rep w F j .nilp (.pointer none)
  | ptr (b off B : Nat) (h : j[b]? = some B) : Rep w F j (.ptr b off) (.pointer (some ⟨B, off, none⟩))
  | nils : Rep w F j .nils (.slice none 0 0)
  | list (xs : List D) (B off cap sz : Nat) (g : Nat → Value) (hc : xs.length ≤ cap) (hb : xs.length ≤ bnd) (hsz : ∀ x ∈ xs, x.elem sz = true)
      (hF : ∀ i, i < xs.length * sz → off + i < F B) (hcell : ∀ i, i < xs.length * sz → w.cell? ⟨B, off + i, none⟩ = some (g i))
      (hrep : ∀ (i : Nat) (d : D), (xs.flatMap D.cells)[i]? = some d → Rep w F j d (g i)) : Rep w F j (.list xs) (.slice (some ⟨B, off, none⟩) xs.length cap)
  | list0 (a : Option Addr) (cap : Nat) : Rep w F j (.list []) (.slice a 0 cap)
  | ownnil (e : Nat) : Rep w F j (.own e []) (.slice none 0 0)
  | ref (b off len sz B cap : Nat) (h : j[b]? = some B) (hc : len ≤ cap) (hb : len ≤ bnd) (hblk : ∃ (C : Array Value) (e : TypeId) (fr : Nat × Nat), w.heap[B]? = some (Obj.cells C e fr) ∧ off + cap * sz ≤ C.size) :
      Rep w F j (.ref b off len sz) (.slice (some ⟨B, off, none⟩) len cap)
  | imm (cs : List D) (B off : Nat) (g : Nat → Value) (hone : ∀ c ∈ cs, c.one = true ∧ c.closed = true)
      (hF : ∀ i, i < cs.length → off + i < F B) (hcell : ∀ i, i < cs.length → w.cell? ⟨B, off + i, none⟩ = some (g i))
      (hrep : ∀ (i : Nat) (d : D), cs[i]? = some d → Rep w F j d (g i)) : Rep w F j (.imm cs) (.pointer (some ⟨B, off, none⟩))
  | fn (f : Nat) (cs : List D) (vs : Array Value) (hl : cs.length = vs.size) (hrep : ∀ (i : Nat) (d : D) (v : Value), cs[i]? = some d → vs[i]? = some v → Rep w F j d v) : Rep w F j (.fn f cs) (.func (.func f) #[] vs)
  | nilf : Rep w F j .nilf .nilFunc
  | nili : Rep w F j .nili .nilIface
  | iface (t : Nat) (d : D) (v : Value) (h : Rep w F j d v) : Rep w F j (.iface t d) (.iface t v)
  | agg (cs : List D) (vs : Array Value) (hl : cs.length = vs.size) (hone : ∀ c ∈ cs, c.one = true) (hrep : ∀ (i : Nat) (d : D) (v : Value), cs[i]? = some d → vs[i]? = some v → Rep w F j d v) : Rep w F j (.agg cs) (.agg vs)
  | tup (cs : List D) (vs : Array Value) (hl : cs.length = vs.size) (hrep : ∀ (i : Nat) (d : D) (v : Value), cs[i]? = some d → vs[i]? = some v → Rep w F j d v) : Rep w F j (.tup cs) (.tuple vs)

theorem closedL_iff {cs : List D} : D.closedL cs = true ↔ ∀ c ∈ cs, c.closed = true := by
  induction cs with
  | nil => simp [D.closedL]
  | cons d ds ih => simp [D.closedL, ih]

theorem elem_iff {sz : Nat} {d : D} : d.elem sz = true ↔ d.cells.length = sz ∧ d.closed = true ∧ ∀ c ∈ d.cells, c.one = true := by
  simp [D.elem, and_assoc]

theorem elem_cells_closed {sz : Nat} {d : D} (h : d.elem sz = true) : ∀ c ∈ d.cells, c.closed = true := by
  obtain ⟨_, h2, _⟩ := elem_iff.1 h
  cases d <;> simp_all [D.cells, D.closed, closedL_iff]

theorem flat_length {xs : List D} {sz : Nat} (h : ∀ x ∈ xs, x.elem sz = true) : (xs.flatMap D.cells).length = xs.length * sz := by
  induction xs with
  | nil => simp
  | cons x xs ih =>
    rw [List.flatMap_cons, List.length_append, ih (fun y hy => h y (List.mem_cons_of_mem _ hy)), (elem_iff.1 (h x List.mem_cons_self)).1, List.length_cons, Nat.succ_mul, Nat.add_comm]

/-- The cells of element k. -/
theorem flat_at {xs : List D} {sz : Nat} (h : ∀ x ∈ xs, x.elem sz = true) {k : Nat} {x : D} (hk : xs[k]? = some x) {i : Nat} (hi : i < sz) : (xs.flatMap D.cells)[k * sz + i]? = x.cells[i]? := by
  induction xs generalizing k with
  | nil => simp at hk
  | cons y ys ih =>
    have hy := (elem_iff.1 (h y List.mem_cons_self)).1
    rw [List.flatMap_cons]
    cases k with
    | zero =>
      simp at hk
      subst hk
      rw [Nat.zero_mul, Nat.zero_add, List.getElem?_append_left (by omega)]
    | succ k =>
      simp at hk
      rw [List.getElem?_append_right (by rw [hy, Nat.succ_mul]; omega), hy]
      rw [show (k + 1) * sz + i - sz = k * sz + i by rw [Nat.succ_mul]; omega]
      exact ih (fun z hz => h z (List.mem_cons_of_mem _ hz)) hk

/-- Every cell of the flattened list is a cell of one of its elements. -/
theorem flat_mem {xs : List D} {i : Nat} {d : D} (h : (xs.flatMap D.cells)[i]? = some d) : ∃ x ∈ xs, d ∈ x.cells := by
  have := List.mem_of_getElem? h
  simpa [List.mem_flatMap] using this

theorem Rep.one {w : World} {F : Nat → Nat} {j : List Nat} {d : D} {v : Value} (h : Rep w F j d v) (ho : d.one = true) : v.oneCell' = true := by
  cases h <;> first | rfl | (simp [D.one] at ho)

theorem Rep.cells {w : World} {F : Nat → Nat} {j : List Nat} {d : D} {v : Value} (h : Rep w F j d v) (ht : ∀ ds, d ≠ .tup ds) :
    v.cells.size = d.cells.length ∧ ∀ (i : Nat) (c : D) (u : Value), d.cells[i]? = some c → v.cells[i]? = some u → Rep w F j c u := by
  have key : ∀ d v, Rep w F j d v → (∀ vs, v ≠ .agg vs) → d.cells = [d] → v.cells.size = d.cells.length ∧ ∀ (i : Nat) (c : D) (u : Value), d.cells[i]? = some c → v.cells[i]? = some u → Rep w F j c u := by
    intro d v h hv hd
    have hvc : v.cells = #[v] := by cases v <;> first | rfl | exact absurd rfl (hv _)
    rw [hd, hvc]
    refine ⟨rfl, fun i c u hc hu => ?_⟩
    match i with
    | 0 => simp at hc hu; subst hc; subst hu; exact h
    | i + 1 => simp at hc
  cases h with
  | agg cs vs hl hone hrep => exact ⟨hl.symm, hrep⟩
  | tup cs vs hl hrep => exact absurd rfl (ht _)
  | bool b => exact key _ _ (.bool b) (by intro _ e; cases e) rfl
  | int k n => exact key _ _ (.int k n) (by intro _ e; cases e) rfl
  | flt k n => exact key _ _ (.flt k n) (by intro _ e; cases e) rfl
  | str s h => exact key _ _ (.str s h) (by intro _ e; cases e) rfl
  | nilp => exact key _ _ .nilp (by intro _ e; cases e) rfl
  | ptr b off B h => exact key _ _ (.ptr b off B h) (by intro _ e; cases e) rfl
  | nils => exact key _ _ .nils (by intro _ e; cases e) rfl
  | list xs B off cap sz g hc hb hsz hF hcell hrep => exact key _ _ (.list xs B off cap sz g hc hb hsz hF hcell hrep) (by intro _ e; cases e) rfl
  | list0 a cap => exact key _ _ (.list0 a cap) (by intro _ e; cases e) rfl
  | ownnil e => exact key _ _ (.ownnil e) (by intro _ e; cases e) rfl
  | ref b off len sz B cap h hc hb hblk => exact key _ _ (.ref b off len sz B cap h hc hb hblk) (by intro _ e; cases e) rfl
  | imm cs B off g hone hF hcell hrep => exact key _ _ (.imm cs B off g hone hF hcell hrep) (by intro _ e; cases e) rfl
  | fn f cs vs hl hrep => exact key _ _ (.fn f cs vs hl hrep) (by intro _ e; cases e) rfl
  | nilf => exact key _ _ .nilf (by intro _ e; cases e) rfl
  | nili => exact key _ _ .nili (by intro _ e; cases e) rfl
  | iface t d v h => exact key _ _ (.iface t d v h) (by intro _ e; cases e) rfl

/-- Who may write a block. -/
inductive Owner where
  | slot (n : Nat)
  | var (n : Nat)
  | vc (n i : Nat)
  | ob (b : Nat)
  | oc (b i : Nat)
  deriving DecidableEq

structure Cx where
  w : World
  F : Nat → Nat
  j : List Nat
  O : Nat → Option Owner

structure Le (c c' : Cx) : Prop where
  size : c.w.heap.size ≤ c'.w.heap.size
  F : ∀ B, c.F B ≤ c'.F B
  cell : ∀ B i v, i < c.F B → c.w.cell? ⟨B, i, none⟩ = some v → c'.w.cell? ⟨B, i, none⟩ = some v
  blk : ∀ (B : Nat) (C : Array Value) (e : TypeId) (fr : Nat × Nat), c.w.heap[B]? = some (Obj.cells C e fr) → ∃ (C' : Array Value) (e' : TypeId) (fr' : Nat × Nat), c'.w.heap[B]? = some (Obj.cells C' e' fr') ∧ C.size ≤ C'.size
  j : ∀ (b B : Nat), c.j[b]? = some B → c'.j[b]? = some B

theorem Le.refl (c : Cx) : Le c c := ⟨Nat.le_refl _, fun _ => Nat.le_refl _, fun _ _ _ _ h => h, fun _ C e fr h => ⟨C, e, fr, h, Nat.le_refl _⟩, fun _ _ h => h⟩
theorem Le.trans {a b c : Cx} (h : Le a b) (k : Le b c) : Le a c :=
  ⟨Nat.le_trans h.size k.size, fun B => Nat.le_trans (h.F B) (k.F B), fun B i v hi hv => k.cell B i v (Nat.lt_of_lt_of_le hi (h.F B)) (h.cell B i v hi hv),
    fun B C e fr hB => by
      obtain ⟨C', e', fr', h1, h2⟩ := h.blk B C e fr hB
      obtain ⟨C'', e'', fr'', h3, h4⟩ := k.blk B C' e' fr' h1
      exact ⟨C'', e'', fr'', h3, Nat.le_trans h2 h4⟩,
    fun b B hB => k.j b B (h.j b B hB)⟩

theorem Rep.le {c c' : Cx} (hl : Le c c') {d : D} {v : Value} (h : Rep c.w c.F c.j d v) : Rep c'.w c'.F c'.j d v := by
  induction h with
  | bool b => exact .bool b
  | int k n => exact .int k n
  | flt k n => exact .flt k n
  | str s h => exact .str s h
  | nilp => exact .nilp
  | ptr b off B h => exact .ptr b off B (hl.j _ _ h)
  | nils => exact .nils
  | list xs B off cap sz g hc hb hsz hF hcell _ ih =>
    exact .list xs B off cap sz g hc hb hsz (fun i hi => Nat.lt_of_lt_of_le (hF i hi) (hl.F B)) (fun i hi => hl.cell B _ _ (hF i hi) (hcell i hi)) ih
  | list0 a cap => exact .list0 a cap
  | ownnil e => exact .ownnil e
  | ref b off len sz B cap h hc hb hblk =>
    obtain ⟨C, e, fr, h1, h2⟩ := hblk
    obtain ⟨C', e', fr', h3, h4⟩ := hl.blk B C e fr h1
    exact .ref b off len sz B cap (hl.j _ _ h) hc hb ⟨C', e', fr', h3, Nat.le_trans h2 h4⟩
  | imm cs B off g hone hF hcell _ ih =>
    exact .imm cs B off g hone (fun i hi => Nat.lt_of_lt_of_le (hF i hi) (hl.F B)) (fun i hi => hl.cell B _ _ (hF i hi) (hcell i hi)) ih
  | fn f cs vs hl' _ ih => exact .fn f cs vs hl' ih
  | nilf => exact .nilf
  | nili => exact .nili
  | iface t d v _ ih => exact .iface t d v ih
  | agg cs vs hl' hone _ ih => exact .agg cs vs hl' hone ih
  | tup cs vs hl' _ ih => exact .tup cs vs hl' ih

/-- What leads to no object reads the same whatever the objects. -/
theorem Rep.closed {w : World} {F : Nat → Nat} {j j' : List Nat} {d : D} {v : Value} (h : Rep w F j d v) (hc : d.closed = true) : Rep w F j' d v := by
  induction h with
  | bool b => exact .bool b
  | int k n => exact .int k n
  | flt k n => exact .flt k n
  | str s h => exact .str s h
  | nilp => exact .nilp
  | ptr b off B h => simp [D.closed] at hc
  | nils => exact .nils
  | list xs B off cap sz g hc' hb hsz hF hcell _ ih =>
    refine .list xs B off cap sz g hc' hb hsz hF hcell fun i d hd => ih i d hd ?_
    obtain ⟨x, hx, hdx⟩ := flat_mem hd
    exact elem_cells_closed (hsz x hx) d hdx
  | list0 a cap => exact .list0 a cap
  | ownnil e => exact .ownnil e
  | ref b off len sz B cap h hc' hb hblk => simp [D.closed] at hc
  | imm cs B off g hone hF hcell _ ih => exact .imm cs B off g hone hF hcell fun i d hd => ih i d hd (hone d (List.mem_of_getElem? hd)).2
  | fn f cs vs hl _ ih => exact .fn f cs vs hl fun i d v hd hv => ih i d v hd hv (closedL_iff.1 (by simpa [D.closed] using hc) d (List.mem_of_getElem? hd))
  | nilf => exact .nilf
  | nili => exact .nili
  | iface t d v _ ih => exact .iface t d v (ih (by simpa [D.closed] using hc))
  | agg cs vs hl hone _ ih => exact .agg cs vs hl hone fun i d v hd hv => ih i d v hd hv (closedL_iff.1 (by simpa [D.closed] using hc) d (List.mem_of_getElem? hd))
  | tup cs vs hl _ ih => exact .tup cs vs hl fun i d v hd hv => ih i d v hd hv (closedL_iff.1 (by simpa [D.closed] using hc) d (List.mem_of_getElem? hd))

/-- A list that may be appended to. -/
def OwnRel (P : Program) (c : Cx) (o : Owner) (e : Nat) (xs : List D) (v : Value) : Prop :=
  (xs = [] ∧ v = .slice none 0 0) ∨ ∃ sz us, (P.info? e).map (·.size) = some sz ∧ 0 < sz ∧ c.w.ownsRow 0 e sz v xs.length us ∧ xs.length ≤ bnd ∧ (∀ x ∈ xs, x.elem sz = true) ∧
    (∀ (i : Nat) (d : D), (xs.flatMap D.cells)[i]? = some d → ∃ u, us[i]? = some u ∧ Rep c.w c.F c.j d u) ∧ ∀ g, v.ownBlock = some g → c.F g = xs.length * sz ∧ c.O g = some o

def CellRel (P : Program) (c : Cx) (o : Owner) (d : D) (v : Value) : Prop :=
  match d with
  | .own e xs => OwnRel P c o e xs v
  | d => Rep c.w c.F c.j d v

/-- A block that holds some cells, which one alone may write. -/
def BlockRel (P : Program) (c : Cx) (B : Nat) (o : Owner) (oc : Nat → Owner) (cs : List D) : Prop :=
  ∃ (C : Array Value) (e : TypeId), c.w.heap[B]? = some (Obj.cells C e (0, 0)) ∧ cs.length ≤ C.size ∧ c.O B = some o ∧ c.F B = 0 ∧
    ∀ (i : Nat) (d : D), cs[i]? = some d → d.one = true ∧ ∃ u, C[i]? = some u ∧ CellRel P c (oc i) d u

def SlotRel (P : Program) (c : Cx) (tm : Nat → Value) (n : Nat) (s : Slot) (v : Value) : Prop :=
  match s with
  | .und => True
  | .no => v = undef
  | .d x => CellRel P c (.slot n) x v
  | .var cs => ∃ B, v = .pointer (some ⟨B, 0, none⟩) ∧ BlockRel P c B (.var n) (.vc n) cs
  | .loc t off => ∃ B, tm t = .pointer (some ⟨B, 0, none⟩) ∧ v = .pointer (some ⟨B, off, none⟩)

def HRel (P : Program) (c : Cx) (H : List (Option (List D))) : Prop :=
  c.j.length = H.length ∧ ∀ (b : Nat) (cs : List D), H[b]? = some (some cs) → ∃ B : Nat, c.j[b]? = some B ∧ BlockRel P c B (.ob b) (.oc b) cs

structure Fr (c c' : Cx) : Prop where
  os : c'.w.os = c.w.os
  tape : c'.w.tape = c.w.tape
  output : c'.w.output = c.w.output
  le : Le c c'
  keep : ∀ B, B < c.w.heap.size → c.O B = none → c'.w.heap[B]? = c.w.heap[B]? ∧ c'.F B = c.F B ∧ c'.O B = none

theorem Fr.refl (c : Cx) : Fr c c := ⟨rfl, rfl, rfl, .refl c, fun _ _ h => ⟨rfl, rfl, h⟩⟩
theorem Fr.trans {a b c : Cx} (h : Fr a b) (k : Fr b c) : Fr a c :=
  ⟨k.os.trans h.os, k.tape.trans h.tape, k.output.trans h.output, h.le.trans k.le, fun B hB hO => by
    obtain ⟨h1, h2, h3⟩ := h.keep B hB hO
    obtain ⟨k1, k2, k3⟩ := k.keep B (Nat.lt_of_lt_of_le hB h.le.size) h3
    exact ⟨k1.trans h1, k2.trans h2, k3⟩⟩

/-- Nothing is known of blocks that are not yet there. -/
def Wf (c : Cx) : Prop := ∀ B, c.w.heap.size ≤ B → c.O B = none ∧ c.F B = 0

abbrev tmOf (a : Act) : Nat → Value := fun n => a.tmps.getD n undef

/-- The state of the abstract machine and of the machine, within a call that began at c0. N: how many temporaries. V: those that hold variables. -/
structure Sim (P : Program) (N : Nat) (V : Nat → Bool) (c0 c : Cx) (σ : St) (a : Act) (w : World) : Prop where
  hw : c.w = w
  wf : Wf c
  fr : Fr c0 c
  size : a.tmps.size = N
  out : ∀ n, N ≤ n → σ.env n = .und
  vars : ∀ n cs, σ.env n = .var cs → V n = true
  locs : ∀ n t off, σ.env n = .loc t off → V t = true
  slots : ∀ n, SlotRel P c (tmOf a) n (σ.env n) (tmOf a n)
  H : HRel P c σ.H
  dfr : a.defers = []

theorem OwnRel.le {P : Program} {c c' : Cx} {o : Owner} {e : Nat} {xs : List D} {v : Value} (hl : Le c c') (h : OwnRel P c o e xs v)
    (hb : ∀ g, v.ownBlock = some g → c'.w.heap[g]? = c.w.heap[g]? ∧ c'.F g = c.F g ∧ c'.O g = c.O g) : OwnRel P c' o e xs v := by
  rcases h with h | ⟨sz, us, h1, h2, h3, h4, h5, h6, h7⟩
  · exact .inl h
  refine .inr ⟨sz, us, h1, h2, ?_, h4, h5, fun i d hd => ?_, fun g hg => ?_⟩
  · refine ⟨h3.1, ?_⟩
    rcases h3.2 with hn | ⟨g, cap, cur, rfl, hbg, hg, rest⟩
    · exact .inl hn
    · exact .inr ⟨g, cap, cur, rfl, hbg, ((hb g rfl).1).trans hg, rest⟩
  · obtain ⟨u, hu, hr⟩ := h6 i d hd
    exact ⟨u, hu, hr.le hl⟩
  · obtain ⟨k1, k2, k3⟩ := hb g hg
    rw [k2, k3]
    exact h7 g hg

/-- What owns a block, by its owner. -/
theorem OwnRel.block {P : Program} {c : Cx} {o : Owner} {e : Nat} {xs : List D} {v : Value} (h : OwnRel P c o e xs v) (g : Nat) (hg : v.ownBlock = some g) : c.O g = some o ∧ g < c.w.heap.size := by
  rcases h with ⟨_, rfl⟩ | ⟨sz, us, h1, h2, h3, h4, h5, h6, h7⟩
  · cases hg
  exact ⟨(h7 g hg).2, (h3.lt g hg).2⟩

theorem CellRel.le {P : Program} {c c' : Cx} {o : Owner} {d : D} {v : Value} (hl : Le c c') (h : CellRel P c o d v)
    (hb : ∀ g, c.O g = some o → c'.w.heap[g]? = c.w.heap[g]? ∧ c'.F g = c.F g ∧ c'.O g = c.O g) : CellRel P c' o d v := by
  unfold CellRel at *
  split at h
  · exact OwnRel.le hl h fun g hg => hb g (h.block g hg).1
  · exact Rep.le hl h

theorem CellRel.of_rep {P : Program} {c : Cx} {o : Owner} {d : D} {v : Value} (h : Rep c.w c.F c.j d v) : CellRel P c o d v := by
  unfold CellRel
  split
  · cases h
    exact .inl ⟨rfl, rfl⟩
  · exact h

theorem Rep.copy {w : World} {F : Nat → Nat} {j : List Nat} {d : D} {v : Value} (h : Rep w F j d v) : Rep w F j d.copy v := by
  cases h <;> first | (constructor; done) | skip
  all_goals first
    | exact .list0 _ _
    | (constructor <;> assumption)

theorem BlockRel.le {P : Program} {c c' : Cx} {B : Nat} {o : Owner} {oc : Nat → Owner} {cs : List D} (hl : Le c c') (h : BlockRel P c B o oc cs)
    (hb : ∀ g, (c.O g = some o ∨ ∃ i, c.O g = some (oc i)) → c'.w.heap[g]? = c.w.heap[g]? ∧ c'.F g = c.F g ∧ c'.O g = c.O g) : BlockRel P c' B o oc cs := by
  obtain ⟨C, e, h1, h2, h3, h4, h5⟩ := h
  obtain ⟨k1, k2, k3⟩ := hb B (.inl h3)
  refine ⟨C, e, k1.trans h1, h2, k3.trans h3, k2.trans h4, fun i d hd => ?_⟩
  obtain ⟨hone, u, hu, hr⟩ := h5 i d hd
  exact ⟨hone, u, hu, hr.le hl fun g hg => hb g (.inr ⟨i, hg⟩)⟩

/-- A copy of an owned list reads as a list. -/
theorem OwnRel.rep {P : Program} {c : Cx} {o : Owner} {e : Nat} {xs : List D} {v : Value} (h : OwnRel P c o e xs v) : Rep c.w c.F c.j (.list xs) v := by
  rcases h with ⟨rfl, rfl⟩ | ⟨sz, us, h1, h2, h3, h4, h5, h6, h7⟩
  · exact .list0 none 0
  rcases h3.2 with ⟨rfl, hn⟩ | ⟨g, cap, cur, rfl, hbg, hg, hnc, hcm, hcs, htake⟩
  · have : xs = [] := List.eq_nil_of_length_eq_zero hn
    subst this
    exact .list0 none 0
  · obtain ⟨hF, hO⟩ := h7 g rfl
    have hl := flat_length h5
    refine .list xs g 0 cap sz (fun i => us.getD i undef) hnc h4 h5 (fun i hi => by rw [hF]; omega) (fun i hi => ?_) (fun i d hd => ?_)
    · have hi' : i < us.length := by rw [h3.1]; exact hi
      have := h3.cells (g := g) rfl i us[i] (List.getElem?_eq_getElem hi')
      rw [show ((⟨g, 0, none⟩ : Addr).add i) = ⟨g, 0 + i, none⟩ by unfold Addr.add; split <;> simp_all] at this
      rw [this, List.getD_eq_getElem?_getD, List.getElem?_eq_getElem hi']
      rfl
    · obtain ⟨u, hu, hr⟩ := h6 i d hd
      rw [List.getD_eq_getElem?_getD, hu]
      exact hr

theorem CellRel.copy {P : Program} {c : Cx} {o : Owner} {d : D} {v : Value} (h : CellRel P c o d v) : Rep c.w c.F c.j d.copy v := by
  unfold CellRel at h
  split at h
  · exact OwnRel.rep h
  · rename_i hne
    cases d <;> first | exact h | exact absurd rfl (hne _ _)

end Go.Am
