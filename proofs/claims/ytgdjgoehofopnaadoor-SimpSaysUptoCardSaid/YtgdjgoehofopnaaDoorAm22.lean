/- What a reading of an argument tells: it stands for a value of its type. -/
import Derived.Test.YtgdjgoehofopnaaDoorAm21
import Derived.SizedLaws
import GoSem.ClaimJoined
set_option linter.unusedSimpArgs false
set_option linter.unusedVariables false
set_option linter.unnecessarySimpa false
namespace Go.Am
open Go Go.Lib

/-- Types of plain data, among them all that they lead to. -/
def plainTys (P : Program) (S : List TypeId) : Bool := S.all fun t => match P.underlying t with
  | some .bool | some (.int _) | some (.float _) | some .string => P.cellsOf t == 1
  | some (.slice e) => P.cellsOf t == 1 && S.contains e && decide (0 < P.cellsOf e)
  | some (.struct fs) => (fs.toList.all fun f => S.contains f.type) && ((List.range fs.size).all fun i => (fs.getD i default).offset == ((fs.toList.take i).map fun f => P.cellsOf f.type).sum) && P.cellsOf t == (fs.toList.map fun f => P.cellsOf f.type).sum
  | some (.array n e) => S.contains e && P.cellsOf t == n * P.cellsOf e
  | _ => false

/-- The cells of a value of a type. -/
inductive Ty (P : Program) : TypeId → List D → Prop
  | bool {t b} (h : P.underlying t = some .bool) : Ty P t [.bool b]
  | int {t k n} (h : P.underlying t = some (.int k)) (hw : (Lit.int k n).wf = true) : Ty P t [.int k n]
  | flt {t k n} (h : P.underlying t = some (.float k)) (hw : (Lit.float k n).wf = true) : Ty P t [.flt k n]
  | str {t s} (h : P.underlying t = some .string) (hl : s.length ≤ bnd) : Ty P t [.str s]
  | list {t e} {css : List (List D)} (h : P.underlying t = some (.slice e)) (hc : ∀ cs ∈ css, Ty P e cs) : Ty P t [.list (css.map ofElem)]
  | struct {t fs} {css : List (List D)} (h : P.underlying t = some (.struct fs)) (hl : css.length = fs.size) (hc : ∀ (i : Nat) f cs, fs[i]? = some f → css[i]? = some cs → Ty P f.type cs) : Ty P t css.flatten
  | array {t n e} {css : List (List D)} (h : P.underlying t = some (.array n e)) (hl : css.length = n) (hc : ∀ cs ∈ css, Ty P e cs) : Ty P t css.flatten

theorem mapM_range {α : Type} {f : Nat → Option α} : ∀ {n : Nat} {xs : List α}, (List.range n).mapM f = some xs → xs.length = n ∧ ∀ (i : Nat) x, xs[i]? = some x → f i = some x := by
  have gen : ∀ (l : List Nat) (xs : List α), l.mapM f = some xs → xs.length = l.length ∧ ∀ (i : Nat) x, xs[i]? = some x → ∃ j, l[i]? = some j ∧ f j = some x := by
    intro l
    induction l with
    | nil => intro xs h; simp at h; subst h; simp
    | cons a l ih =>
      intro xs h
      simp only [List.mapM_cons, Option.bind_eq_bind, Option.bind_eq_some_iff, Option.pure_def, Option.some.injEq] at h
      obtain ⟨y, h1, ys, h2, rfl⟩ := h
      obtain ⟨k1, k2⟩ := ih ys h2
      refine ⟨by simp [k1], fun i x hx => ?_⟩
      cases i with
      | zero => simp at hx; subst hx; exact ⟨a, by simp, h1⟩
      | succ i =>
        obtain ⟨j, hj, hf⟩ := k2 i x (by simpa using hx)
        exact ⟨j, by simpa using hj, hf⟩
  intro n xs h
  obtain ⟨k1, k2⟩ := gen _ _ h
  refine ⟨by simpa using k1, fun i x hx => ?_⟩
  obtain ⟨j, hj, hf⟩ := k2 i x hx
  have hi : i < xs.length := (List.getElem?_eq_some_iff.1 hx).1
  rw [List.getElem?_range (by simpa [k1] using hi)] at hj
  injection hj with hj
  subst hj
  exact hf

theorem mapM_list {α β : Type} {f : α → Option β} : ∀ {l : List α} {xs : List β}, l.mapM f = some xs → xs.length = l.length ∧ ∀ (i : Nat) a x, l[i]? = some a → xs[i]? = some x → f a = some x := by
  intro l
  induction l with
  | nil => intro xs h; simp at h; subst h; simp
  | cons a l ih =>
    intro xs h
    simp only [List.mapM_cons, Option.bind_eq_bind, Option.bind_eq_some_iff, Option.pure_def, Option.some.injEq] at h
    obtain ⟨y, h1, ys, h2, rfl⟩ := h
    obtain ⟨k1, k2⟩ := ih h2
    refine ⟨by simp [k1], fun i b x hb hx => ?_⟩
    cases i with
    | zero => simp at hb hx; subst hb; subst hx; exact h1
    | succ i => exact k2 i b x (by simpa using hb) (by simpa using hx)

theorem ofElem_cells {cs : List D} (h : ∀ x ∈ cs, x.one = true) : (ofElem cs).cells = cs := by
  unfold ofElem
  split
  · rename_i d
    have := h d (by simp)
    cases d <;> first | rfl | (simp [D.one] at this)
  · rfl

theorem ofElem_closed {cs : List D} (h : ∀ x ∈ cs, x.one = true ∧ x.closed = true) : (ofElem cs).closed = true := by
  unfold ofElem
  split
  · exact (h _ (by simp)).2
  · simp only [D.closed]
    rw [closedL_iff]
    exact fun x hx => (h x hx).2

theorem flatten_at {α : Type} {n : Nat} : ∀ {css : List (List α)}, (∀ cs ∈ css, cs.length = n) → ∀ {j : Nat} {x : α}, css.flatten[j]? = some x → ∃ i k cs, j = i * n + k ∧ k < n ∧ css[i]? = some cs ∧ cs[k]? = some x
  | [], _, j, x, h => by simp at h
  | c :: css, hl, j, x, h => by
    have hc := hl c List.mem_cons_self
    rw [List.flatten_cons] at h
    rcases Nat.lt_or_ge j c.length with hj | hj
    · rw [List.getElem?_append_left hj] at h
      exact ⟨0, j, c, by omega, by omega, by simp, h⟩
    · rw [List.getElem?_append_right hj] at h
      obtain ⟨i, k, cs, h1, h2, h3, h4⟩ := flatten_at (fun cs hcs => hl cs (List.mem_cons_of_mem _ hcs)) h
      exact ⟨i + 1, k, cs, by rw [Nat.succ_mul]; omega, h2, by simpa using h3, h4⟩

theorem flatten_in {α : Type} : ∀ {css : List (List α)} {j : Nat} {x : α}, css.flatten[j]? = some x → ∃ i k c, css[i]? = some c ∧ c[k]? = some x ∧ j = ((css.take i).map List.length).sum + k
  | [], j, x, h => by simp at h
  | c :: css, j, x, h => by
    rw [List.flatten_cons] at h
    rcases Nat.lt_or_ge j c.length with hj | hj
    · rw [List.getElem?_append_left hj] at h
      exact ⟨0, j, c, by simp, h, by simp⟩
    · rw [List.getElem?_append_right hj] at h
      obtain ⟨i, k, c', h1, h2, h3⟩ := flatten_in h
      exact ⟨i + 1, k, c', by simpa using h1, h2, by simp only [List.take_succ_cons, List.map_cons, List.sum_cons]; omega⟩

theorem choose_list {α : Type} {n : Nat} {Q : Nat → α → Prop} (h : ∀ i, i < n → ∃ a, Q i a) : ∃ l : List α, l.length = n ∧ ∀ i a, l[i]? = some a → Q i a := by
  induction n with
  | zero => exact ⟨[], rfl, by simp⟩
  | succ n ih =>
    obtain ⟨l, h1, h2⟩ := ih fun i hi => h i (by omega)
    obtain ⟨a, ha⟩ := h n (by omega)
    refine ⟨l ++ [a], by simp [h1], fun i b hb => ?_⟩
    rcases Nat.lt_or_ge i n with hi | hi
    · rw [List.getElem?_append_left (by omega)] at hb
      exact h2 i b hb
    · rw [List.getElem?_append_right (by omega)] at hb
      have : i - l.length = 0 := by
        have := (List.getElem?_eq_some_iff.1 hb).1
        simp at this; omega
      rw [this] at hb
      simp at hb
      subst hb
      have : i = n := by omega
      subst this
      exact ha

/-- A count of what a reading holds: each value and each letter one at the least. -/
structure Bulk (H : Type) where
  B : DataW H → Nat
  A : List (DataW H) → Nat
  str : ∀ s, B (.lit (.string s)) = s.length + 1
  lit : ∀ l, 1 ≤ B (.lit l)
  nil : 1 ≤ B .nil
  slice : ∀ e s, A e + 1 ≤ B (.slice e s)
  agg : ∀ ps, A ps + 1 ≤ B (.agg ps)
  none : A [] = 0
  cons : ∀ d r, A (d :: r) = B d + A r

mutual
/-- The same of a value. -/
def D.bulk : D → Nat
  | .str s => s.length + 1
  | .list xs => D.bulkL xs + 1
  | .agg cs => D.bulkL cs + 1
  | _ => 1
def D.bulkL : List D → Nat
  | [] => 0
  | d :: ds => d.bulk + D.bulkL ds
end

theorem bulkL_append : ∀ (a b : List D), D.bulkL (a ++ b) = D.bulkL a + D.bulkL b
  | [], b => by simp [D.bulkL]
  | x :: a, b => by simp only [List.cons_append, D.bulkL, bulkL_append a b]; omega

theorem bulkL_flatten : ∀ (css : List (List D)), D.bulkL css.flatten = (css.map D.bulkL).sum
  | [] => rfl
  | c :: css => by simp [bulkL_append, bulkL_flatten css]

theorem bulkL_map : ∀ (xs : List D), D.bulkL xs = (xs.map D.bulk).sum
  | [] => rfl
  | x :: xs => by simp [D.bulkL, bulkL_map xs]

theorem Bulk.sum_le {H : Type} (b : Bulk H) : ∀ {ns : List Nat} {ds : List (DataW H)}, ns.length = ds.length → (∀ (i : Nat) n d, ns[i]? = some n → ds[i]? = some d → n ≤ b.B d) → ns.sum ≤ b.A ds
  | [], [], _, _ => by simp [b.none]
  | n :: ns, d :: ds, hl, h => by
    have h1 := h 0 n d rfl rfl
    have h2 := b.sum_le (ns := ns) (ds := ds) (by simpa using hl) fun i n' d' a c => h (i + 1) n' d' (by simpa using a) (by simpa using c)
    rw [b.cons, List.sum_cons]
    omega
  | [], _ :: _, hl, _ => by simp at hl
  | _ :: _, [], hl, _ => by simp at hl

theorem Bulk.mem_le {H : Type} (b : Bulk H) : ∀ {ds : List (DataW H)} {d : DataW H}, d ∈ ds → b.B d ≤ b.A ds
  | x :: ds, d, h => by
    rw [b.cons]
    rcases List.mem_cons.1 h with rfl | h
    · omega
    · have := b.mem_le h; omega

theorem Bulk.len_le {H : Type} (b : Bulk H) (h1 : ∀ d, 1 ≤ b.B d) : ∀ (ds : List (DataW H)), ds.length ≤ b.A ds
  | [] => by simp
  | d :: ds => by rw [b.cons, List.length_cons]; have := h1 d; have := b.len_le h1 ds; omega

def aggT (P : Program) (t : TypeId) : Bool := match P.underlying t with | some (.struct _) | some (.array _ _) => true | _ => false

/-- Cells that stand for a value of a type. -/
structure Reads (P : Program) (w : World) (F : Nat → Nat) (t : TypeId) (ds : List D) (cs : List Value) (n : Nat) : Prop where
  bk : D.bulkL ds + (if aggT P t = true then 1 else 0) ≤ n
  ty : Ty P t ds
  len : ds.length = cs.length
  one : ∀ x ∈ ds, x.one = true ∧ x.closed = true
  rep : ∀ (i : Nat) x v, ds[i]? = some x → cs[i]? = some v → Rep w F [] x v

theorem Reads.single {P : Program} {w : World} {F : Nat → Nat} {t : TypeId} {d : D} {v : Value} {n : Nat} (ha : aggT P t = false) (hb : d.bulk ≤ n) (h : Ty P t [d]) (h1 : d.one = true) (h2 : d.closed = true) (h3 : Rep w F [] d v) : Reads P w F t [d] [v] n :=
  ⟨by simp [D.bulkL, ha, hb], h, rfl, by simp [h1, h2], fun i x u hx hu => by
    cases i with
    | zero => simp at hx hu; subst hx; subst hu; exact h3
    | succ i => simp at hx⟩

theorem cells?_spec {w : World} {base : Nat} {a : Addr} {n : Nat} {cs : List Value} (h : w.cells? base a n = some cs) : cs.length = n ∧ ∀ i v, cs[i]? = some v → w.cell? (a.add i) = some v := by
  unfold World.cells? at h
  split at h
  · obtain ⟨h1, h2⟩ := mapM_range h
    exact ⟨h1, fun i v hv => h2 i v hv⟩
  · cases h

theorem plain_at {P : Program} {S : List TypeId} (h : plainTys P S = true) {t : TypeId} (ht : t ∈ S) : (match P.underlying t with
  | some .bool | some (.int _) | some (.float _) | some .string => P.cellsOf t == 1
  | some (.slice e) => P.cellsOf t == 1 && S.contains e && decide (0 < P.cellsOf e)
  | some (.struct fs) => (fs.toList.all fun f => S.contains f.type) && ((List.range fs.size).all fun i => (fs.getD i default).offset == ((fs.toList.take i).map fun f => P.cellsOf f.type).sum) && P.cellsOf t == (fs.toList.map fun f => P.cellsOf f.type).sum
  | some (.array n e) => S.contains e && P.cellsOf t == n * P.cellsOf e
  | _ => false) = true := List.all_eq_true.1 h t ht

/-- A reading tells a value. -/
theorem reads_of_trod {H : Type} {enc : TypeId × Value → H} {P : Program} {w : World} {F : Nat → Nat} {S : List TypeId} (bl : Bulk H) (hS : plainTys P S = true) (hF : ∀ B off v, w.cell? ⟨B, off, none⟩ = some v → off < F B) :
    ∀ (fuel : Nat) (t : TypeId) (cs : List Value) (x : DataW H × List MemPlace), t ∈ S → DataW.trod enc P w 0 (fun _ => true) true fuel t cs = some x → bl.B x.1 ≤ bnd → cs.length = P.cellsOf t ∧ ∃ ds, Reads P w F t ds cs (bl.B x.1) := by
  intro fuel
  induction fuel with
  | zero => intro t cs x _ h; simp [DataW.trod] at h
  | succ fuel ih =>
    intro t cv x ht h hw
    have hp := plain_at hS ht
    rw [DataW.trod_step] at h
    unfold DataW.trodStep at h
    split at h
    · rename_i b hu
      rw [hu] at hp
      exact ⟨(beq_iff_eq.1 hp).symm, _, .single (by simp [aggT, hu]) (by injection h with h; subst h; exact bl.lit _) (.bool hu) rfl rfl (.bool b)⟩
    · rename_i k k' n hu
      rw [hu] at hp
      split at h
      · rename_i hk
        obtain ⟨rfl, hwf⟩ := hk
        exact ⟨(beq_iff_eq.1 hp).symm, _, .single (by simp [aggT, hu]) (by injection h with h; subst h; exact bl.lit _) (.int hu hwf) rfl rfl (.int k' n)⟩
      · cases h
    · rename_i k k' n hu
      rw [hu] at hp
      split at h
      · rename_i hk
        obtain ⟨rfl, hwf⟩ := hk
        exact ⟨(beq_iff_eq.1 hp).symm, _, .single (by simp [aggT, hu]) (by injection h with h; subst h; exact bl.lit _) (.flt hu hwf) rfl rfl (.flt k' n)⟩
      · cases h
    · rename_i s hu
      rw [hu] at hp
      split at h
      · injection h with h
        subst h
        have hl : s.data.toList.length ≤ bnd := by
          simp only [bl.str] at hw
          omega
        exact ⟨(beq_iff_eq.1 hp).symm, _, .single (by simp [aggT, hu]) (by simp [D.bulk, bl.str]) (.str hu hl) rfl rfl (by have := Rep.str (w := w) (F := F) (j := []) s.data.toList hl; simpa using this)⟩
      · cases h
    · rename_i hu; rw [hu] at hp; cases hp
    · rename_i hu; rw [hu] at hp; cases hp
    · rename_i e hu
      rw [hu] at hp
      simp only [Bool.and_eq_true, beq_iff_eq] at hp
      have hty : Ty P t [.list (([] : List (List D)).map ofElem)] := .list hu (by simp)
      exact ⟨hp.1.1.symm, _, .single (by simp [aggT, hu]) (by injection h with h; subst h; simpa [D.bulk, D.bulkL] using bl.nil) hty rfl rfl (.list0 none 0)⟩
    · rename_i e a len cap hu
      rw [hu] at hp
      simp only [Bool.and_eq_true, beq_iff_eq, decide_eq_true_eq, List.contains_eq_mem] at hp
      obtain ⟨⟨h1, he⟩, hsz⟩ := hp
      refine ⟨h1.symm, ?_⟩
      simp only at h
      split at h
      · rename_i hb
        obtain ⟨_, hlc, _⟩ := hb
        simp only [Option.bind_eq_some_iff, Option.map_eq_some_iff] at h
        obtain ⟨elems, hel, rest, hrest, rfl⟩ := h
        obtain ⟨k1, k2⟩ := mapM_range hel
        simp only at hw ⊢
        have hsl := bl.slice (elems.map (·.1)) (rest.map (·.1))
        have hone : ∀ i, i < len → 1 ≤ len := fun i hi => by omega
        -- the elements
        have hch : ∀ i, i < len → ∃ ds, ∃ vs, ∃ el, elems[i]? = some el ∧ w.cells? 0 (a.add (i * P.cellsOf e)) (P.cellsOf e) = some vs ∧ Reads P w F e ds vs (bl.B el.1) ∧ vs.length = P.cellsOf e := by
          intro i hi
          have hx := k2 i elems[i] (List.getElem?_eq_getElem (by omega))
          simp only [Option.bind_eq_some_iff] at hx
          obtain ⟨vs, hvs, htr⟩ := hx
          obtain ⟨hl, ds, hds⟩ := ih e vs _ he htr (by
            have := bl.mem_le (List.mem_map.2 ⟨elems[i], List.getElem_mem _, rfl⟩ : elems[i].1 ∈ elems.map (·.1))
            omega)
          exact ⟨ds, vs, elems[i], List.getElem?_eq_getElem (by omega), hvs, hds, hl⟩
        obtain ⟨css, c1, c2⟩ := choose_list hch
        have c3 : ∀ cs ∈ css, Ty P e cs ∧ cs.length = P.cellsOf e ∧ ∀ x ∈ cs, x.one = true ∧ x.closed = true := by
          intro cs hcs
          obtain ⟨i, hi⟩ := List.mem_iff_getElem?.1 hcs
          obtain ⟨vs, el, _, _, hr, hl⟩ := c2 i cs hi
          exact ⟨hr.ty, hr.len.trans hl, hr.one⟩
        have hbk : D.bulkL (css.map ofElem) ≤ bl.A (elems.map (·.1)) := by
          rw [bulkL_map, List.map_map]
          refine bl.sum_le (by simp [c1, k1]) fun i n d hn hd => ?_
          simp only [List.getElem?_map, Option.map_eq_some_iff] at hn hd
          obtain ⟨cs, hcs, rfl⟩ := hn
          obtain ⟨el, hel', rfl⟩ := hd
          obtain ⟨vs, el', q1, _, hr, hl⟩ := c2 i cs hcs
          rw [hel'] at q1
          injection q1 with q1
          subst q1
          refine Nat.le_trans ?_ hr.bk
          have hone := hr.one
          simp only [Function.comp_def]
          unfold ofElem
          split
          · simp [D.bulkL]
          · rename_i hne
            cases hag : aggT P e with
            | true => simp [D.bulk]
            | false =>
              exfalso
              have hpe := plain_at hS he
              have hc1 : P.cellsOf e = 1 := by
                unfold aggT at hag
                cases hue : P.underlying e with
                | none => rw [hue] at hpe; cases hpe
                | some u =>
                  rw [hue] at hpe hag
                  cases u <;> simp only at hpe hag <;> first | (cases hpe; done) | (cases hag; done) | (simp_all; done)
              have : cs.length = 1 := by rw [hr.len, hl, hc1]
              match cs, this with
              | [x], _ => exact hne x rfl
        have hlen : len ≤ bnd := by
          have hge : ∀ x : D, 1 ≤ x.bulk := fun x => by cases x <;> simp [D.bulk]
          have : (css.map ofElem).length ≤ D.bulkL (css.map ofElem) := by
            generalize css.map ofElem = l
            induction l with
            | nil => simp
            | cons x l ih => simp only [List.length_cons, D.bulkL]; have := hge x; omega
          rw [List.length_map, c1] at this
          omega
        refine ⟨[.list (css.map ofElem)], .single (by simp [aggT, hu]) (by simp only [D.bulk]; omega) (.list hu (fun cs hcs => (c3 cs hcs).1)) rfl rfl ?_⟩
        have hxl : (css.map ofElem).length = len := by simp [c1]
        cases hcss : css with
        | nil =>
          have : len = 0 := by rw [← c1, hcss]; rfl
          subst this
          exact .list0 _ _
        | cons c0 ct =>
          rw [← hcss]
          have hpos : 0 < len := by rw [← c1, hcss]; simp
          -- the block
          have hspot : a.spot = none := by
            obtain ⟨vs, el, _, hvs, hr, hl⟩ := c2 0 c0 (by rw [hcss]; rfl)
            obtain ⟨m1, m2⟩ := cells?_spec hvs
            have := m2 0 vs[0] (List.getElem?_eq_getElem (by omega))
            simp only [Nat.zero_mul, Addr.add, if_true] at this
            unfold World.cell? at this
            split at this
            · split at this
              · cases this
              · rename_i hs; simpa using hs
            · cases this
          obtain ⟨B, off, sp⟩ := a
          simp only at hspot
          subst hspot
          have hadd : ∀ m n, ((⟨B, off, none⟩ : Addr).add m).add n = ⟨B, off + (m + n), none⟩ := by
            intro m n
            unfold Addr.add
            split <;> split <;> simp_all [Nat.add_assoc]
          have hflat : (css.map ofElem).flatMap D.cells = css.flatten := by
            rw [List.flatMap_map, List.flatMap_def]
            conv => rhs; rw [← List.map_id css]
            congr 1
            refine List.map_congr_left fun cs hcs => ?_
            exact ofElem_cells fun x hx => ((c3 cs hcs).2.2 x hx).1
          have helem : ∀ x ∈ css.map ofElem, x.elem (P.cellsOf e) = true := by
            intro x hx
            obtain ⟨cs, hcs, rfl⟩ := List.mem_map.1 hx
            obtain ⟨q1, q2, q3⟩ := c3 cs hcs
            have hc := ofElem_cells fun x hx => (q3 x hx).1
            rw [elem_iff, hc]
            exact ⟨q2, ofElem_closed q3, fun x hx => (q3 x hx).1⟩
          have hcellv : ∀ j, j < len * P.cellsOf e → ∃ v, w.cell? ⟨B, off + j, none⟩ = some v ∧ ∀ d, css.flatten[j]? = some d → Rep w F [] d v := by
            intro j hj
            have hfl : css.flatten.length = len * P.cellsOf e := by
              rw [← hflat, flat_length helem, hxl]
            obtain ⟨i, k, cs, q1, q2, q3, q4⟩ := flatten_at (n := P.cellsOf e) (fun cs hcs => (c3 cs hcs).2.1) (List.getElem?_eq_getElem (l := css.flatten) (i := j) (by omega))
            obtain ⟨vs, el, _, hvs, hr, hl⟩ := c2 i cs q3
            obtain ⟨m1, m2⟩ := cells?_spec hvs
            have hv := m2 k vs[k] (List.getElem?_eq_getElem (by omega))
            rw [hadd, ← q1] at hv
            refine ⟨vs[k], hv, fun d hd => ?_⟩
            rw [List.getElem?_eq_getElem (by omega)] at hd
            injection hd with hd
            rw [hd] at q4
            exact hr.rep k d _ q4 (List.getElem?_eq_getElem (by omega))
          have hF' : ∀ i, i < (css.map ofElem).length * P.cellsOf e → off + i < F B := by
            intro i hi
            rw [hxl] at hi
            obtain ⟨v, hv, _⟩ := hcellv i hi
            exact hF _ _ _ hv
          have := Rep.list (w := w) (F := F) (j := []) (css.map ofElem) B off cap (P.cellsOf e) (fun i => (w.cell? ⟨B, off + i, none⟩).getD undef) (by rw [hxl]; exact hlc) (by rw [hxl]; exact hlen) helem hF'
            (fun i hi => by
              rw [hxl] at hi
              obtain ⟨v, hv, _⟩ := hcellv i hi
              rw [hv]; rfl)
            (fun i d hd => by
              rw [hflat] at hd
              have hi : i < len * P.cellsOf e := by
                have := (List.getElem?_eq_some_iff.1 hd).1
                rw [← hflat, flat_length helem, hxl] at this
                exact this
              obtain ⟨v, hv, hr⟩ := hcellv i hi
              rw [hv]
              exact hr d hd)
          rw [hxl] at this
          exact this
      · cases h
    · rename_i cv _ _ fs hu
      rw [hu] at hp
      simp only [Bool.and_eq_true, beq_iff_eq, List.all_eq_true, List.contains_eq_mem, decide_eq_true_eq] at hp
      obtain ⟨⟨hfS, hoff⟩, hsum⟩ := hp
      split at h
      · rename_i hlen
        refine ⟨hlen, ?_⟩
        simp only [Option.map_eq_some_iff] at h
        obtain ⟨xs, hxs, rfl⟩ := h
        obtain ⟨k1, k2⟩ := mapM_list hxs
        simp only at hw ⊢
        have hsl := bl.agg (xs.map (·.1))
        have hch : ∀ i, i < fs.size → ∃ ds, ∀ f el, fs[i]? = some f → xs[i]? = some el → ds.length = P.cellsOf f.type ∧ Reads P w F f.type ds ((cv.drop f.offset).take (P.cellsOf f.type)) (bl.B el.1) := by
          intro i hi
          have hxl : i < xs.length := by rw [k1]; simpa using hi
          have hx := k2 i fs[i] xs[i] (by simp [hi]) (List.getElem?_eq_getElem (by rw [k1]; simpa using hi))
          obtain ⟨hl, ds, hds⟩ := ih _ _ _ (hfS _ (by simp)) hx (by
            have := bl.mem_le (List.mem_map.2 ⟨xs[i], List.getElem_mem _, rfl⟩ : xs[i].1 ∈ xs.map (·.1))
            omega)
          refine ⟨ds, fun f el hf hel => ?_⟩
          rw [Array.getElem?_eq_getElem hi] at hf
          rw [List.getElem?_eq_getElem hxl] at hel
          injection hf with hf
          injection hel with hel
          subst hf
          subst hel
          exact ⟨hds.len.trans hl, hds⟩
        obtain ⟨css, c1, c2⟩ := choose_list hch
        have hget : ∀ i, i < fs.size → ∃ f c, fs[i]? = some f ∧ css[i]? = some c ∧ c.length = P.cellsOf f.type ∧ ∃ el, xs[i]? = some el ∧ Reads P w F f.type c ((cv.drop f.offset).take (P.cellsOf f.type)) (bl.B el.1) := by
          intro i hi
          have hxl : i < xs.length := by rw [k1]; simpa using hi
          have := c2 i css[i] (List.getElem?_eq_getElem (by omega)) fs[i] xs[i] (Array.getElem?_eq_getElem hi) (List.getElem?_eq_getElem hxl)
          exact ⟨fs[i], css[i], Array.getElem?_eq_getElem hi, List.getElem?_eq_getElem (by omega), this.1, xs[i], List.getElem?_eq_getElem hxl, this.2⟩
        have hmap : css.map List.length = fs.toList.map fun f => P.cellsOf f.type := by
          refine List.ext_getElem? fun i => ?_
          rw [List.getElem?_map, List.getElem?_map]
          rcases Nat.lt_or_ge i fs.size with hi | hi
          · obtain ⟨f, c, q1, q2, q3, _⟩ := hget i hi
            rw [q2, Array.getElem?_toList, q1]
            simp [q3]
          · rw [List.getElem?_eq_none (by omega), List.getElem?_eq_none (by simpa using hi)]
            rfl
        have hflen : css.flatten.length = cv.length := by
          rw [List.length_flatten, hmap, hlen, hsum]
        refine ⟨css.flatten, ?_, .struct hu c1 (fun i f c hf hc => ?_), hflen, fun x hx => ?_, fun j x v hx hv => ?_⟩
        · rw [bulkL_flatten]
          have : (css.map D.bulkL).sum ≤ bl.A (xs.map (·.1)) := by
            refine bl.sum_le (by simp [c1, k1]) fun i n d hn hd => ?_
            simp only [List.getElem?_map, Option.map_eq_some_iff] at hn hd
            obtain ⟨c, hc, rfl⟩ := hn
            obtain ⟨el, hel', rfl⟩ := hd
            obtain ⟨f, c', _, q2, _, el', q4, q5⟩ := hget i (by have := (List.getElem?_eq_some_iff.1 hc).1; omega)
            rw [hc] at q2; rw [hel'] at q4
            injection q2 with q2; injection q4 with q4
            subst q2; subst q4
            exact Nat.le_trans (Nat.le_add_right _ _) q5.bk
          split <;> omega
        · obtain ⟨f', c', q1, q2, _, _, _, q4⟩ := hget i (by have := (List.getElem?_eq_some_iff.1 hc).1; omega)
          rw [hf] at q1; rw [hc] at q2
          injection q1 with q1; injection q2 with q2
          subst q1; subst q2
          exact q4.ty
        · obtain ⟨c, hc, hxc⟩ := List.mem_flatten.1 hx
          obtain ⟨i, hi⟩ := List.mem_iff_getElem?.1 hc
          obtain ⟨f', c', q1, q2, _, _, _, q4⟩ := hget i (by have := (List.getElem?_eq_some_iff.1 hi).1; omega)
          rw [hi] at q2
          injection q2 with q2
          subst q2
          exact q4.one x hxc
        · obtain ⟨i, k, c, q1, q2, q3⟩ := flatten_in hx
          have hi : i < fs.size := by have := (List.getElem?_eq_some_iff.1 q1).1; omega
          obtain ⟨f, c', r1, r2, r3, _, _, r4⟩ := hget i hi
          rw [q1] at r2
          injection r2 with r2
          subst r2
          have ho := hoff i (List.mem_range.2 hi)
          have hfd : fs.getD i default = f := by
            rw [Array.getD_eq_getD_getElem?, r1]; rfl
          rw [hfd] at ho
          rw [List.map_take, hmap, ← List.map_take, ← ho] at q3
          refine r4.rep k x v q2 ?_
          have hk : k < P.cellsOf f.type := by have := (List.getElem?_eq_some_iff.1 q2).1; omega
          rw [List.getElem?_take, if_pos hk, List.getElem?_drop, ← q3]
          exact hv
      · cases h
    · rename_i cv _ _ n e hu
      rw [hu] at hp
      simp only [Bool.and_eq_true, beq_iff_eq, List.contains_eq_mem, decide_eq_true_eq] at hp
      obtain ⟨heS, hsum⟩ := hp
      split at h
      · rename_i hlen
        refine ⟨hlen, ?_⟩
        simp only [Option.map_eq_some_iff] at h
        obtain ⟨xs, hxs, rfl⟩ := h
        obtain ⟨k1, k2⟩ := mapM_range hxs
        simp only at hw ⊢
        have hsl := bl.agg (xs.map (·.1))
        have hch : ∀ i, i < n → ∃ ds : List D, ds.length = P.cellsOf e ∧ ∃ el, xs[i]? = some el ∧ Reads P w F e ds ((cv.drop (i * P.cellsOf e)).take (P.cellsOf e)) (bl.B el.1) := by
          intro i hi
          have hx := k2 i xs[i] (List.getElem?_eq_getElem (by omega))
          obtain ⟨hl, ds, hds⟩ := ih _ _ _ heS hx (by
            have := bl.mem_le (List.mem_map.2 ⟨xs[i], List.getElem_mem _, rfl⟩ : xs[i].1 ∈ xs.map (·.1))
            omega)
          exact ⟨ds, hds.len.trans hl, xs[i], List.getElem?_eq_getElem (by omega), hds⟩
        obtain ⟨css, c1, c2⟩ := choose_list hch
        have c3 : ∀ c ∈ css, ∃ i, i < n ∧ css[i]? = some c := by
          intro c hc
          obtain ⟨i, hi⟩ := List.mem_iff_getElem?.1 hc
          exact ⟨i, by have := (List.getElem?_eq_some_iff.1 hi).1; omega, hi⟩
        have hflen : css.flatten.length = cv.length := by
          have : css.map List.length = List.replicate n (P.cellsOf e) := by
            refine List.eq_replicate_iff.2 ⟨by simp [c1], fun m hm => ?_⟩
            obtain ⟨c, hc, rfl⟩ := List.mem_map.1 hm
            obtain ⟨i, _, hi⟩ := c3 c hc
            exact (c2 i c hi).1
          rw [List.length_flatten, this, hlen, hsum]
          simp
        refine ⟨css.flatten, ?_, .array hu c1 (fun c hc => ?_), hflen, fun x hx => ?_, fun j x v hx hv => ?_⟩
        · rw [bulkL_flatten]
          have : (css.map D.bulkL).sum ≤ bl.A (xs.map (·.1)) := by
            refine bl.sum_le (by simp [c1, k1]) fun i n d hn hd => ?_
            simp only [List.getElem?_map, Option.map_eq_some_iff] at hn hd
            obtain ⟨c, hc, rfl⟩ := hn
            obtain ⟨el, hel', rfl⟩ := hd
            obtain ⟨_, el', q4, q5⟩ := c2 i c hc
            rw [hel'] at q4
            injection q4 with q4
            subst q4
            exact Nat.le_trans (Nat.le_add_right _ _) q5.bk
          split <;> omega
        · obtain ⟨i, _, hi⟩ := c3 c hc
          obtain ⟨_, _, _, q5⟩ := c2 i c hi
          exact q5.ty
        · obtain ⟨c, hc, hxc⟩ := List.mem_flatten.1 hx
          obtain ⟨i, _, hi⟩ := c3 c hc
          obtain ⟨_, _, _, q5⟩ := c2 i c hi
          exact q5.one x hxc
        · obtain ⟨i, k, c, q1, q2, q3, q4⟩ := flatten_at (n := P.cellsOf e) (fun c hc => by obtain ⟨i, _, hi⟩ := c3 c hc; exact (c2 i c hi).1) hx
          obtain ⟨_, _, _, q5⟩ := c2 i c q3
          refine q5.rep k x v q4 ?_
          rw [List.getElem?_take, if_pos q2, List.getElem?_drop, ← q1]
          exact hv
      · cases h
    all_goals first
      | (cases h; done)
      | (rename_i hu; rw [hu] at hp; cases hp; done)
      | (rename_i hu _; rw [hu] at hp; cases hp; done)
      | skip

end Go.Am
