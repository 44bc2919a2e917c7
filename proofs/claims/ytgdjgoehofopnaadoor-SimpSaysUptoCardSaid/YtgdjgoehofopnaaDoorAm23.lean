/- A law's row: from a contract over values of the arguments' types. -/
import Derived.Test.YtgdjgoehofopnaaDoorAm22
import Derived.WideShapes
import Derived.OpenShut
import Derived.Below
import Derived.Carry
set_option linter.unusedSimpArgs false
set_option linter.unusedVariables false
set_option linter.unnecessarySimpa false
namespace Go.Am
open Go Go.Lib Go.ChangeShapes Go.WideShapes Go.RowKit

/-- A whole value of a type. -/
structure VTy (P : Program) (t : TypeId) (d : D) : Prop where
  ty : Ty P t d.cells
  agg : aggT P t = true → ∃ cs, d = .agg cs
  one : aggT P t = false → d.one = true
  closed : d.closed = true

section
variable {H : Type} {enc : TypeId × Value → H} {P : Program} {W : World} {S : List TypeId}

def lawCx (W : World) : Cx := { w := W, F := fun B => match W.heap[B]? with | some (.cells c _ _) => c.size | _ => 0, j := [], O := fun _ => none }

theorem lawCx_wf : Wf (lawCx W) := by
  intro B hB
  refine ⟨rfl, ?_⟩
  show (match W.heap[B]? with | some (.cells c _ _) => c.size | _ => 0) = 0
  have hB' : W.heap.size ≤ B := hB
  rw [Array.getElem?_eq_none hB']

theorem lawCx_F (B off : Nat) (v : Value) (h : W.cell? ⟨B, off, none⟩ = some v) : off < (lawCx W).F B := by
  show off < (match W.heap[B]? with | some (.cells c _ _) => c.size | _ => 0)
  unfold World.cell? at h
  split at h
  · rename_i c _ _ hb
    simp only at hb
    rw [hb]
    simp only [Option.isSome_none, Bool.false_eq_true, if_false] at h
    exact (Array.getElem?_eq_some_iff.1 h).1
  · cases h

/-- One argument. -/
theorem arg_of_trod (bl : Bulk H) {t : TypeId} {v : Value} {d : DataW H} {ps : List MemPlace} {base : Nat} (hS : plainTys P S = true) (ht : t ∈ S) (hv : Value.okWide P W .any base t v) (h : DataW.Trod enc P W 0 (fun _ => true) true t v d ps)
    (hw : bl.B d ≤ bnd) : ∃ x, VTy P t x ∧ Rep W (lawCx W).F [] x v ∧ x.bulk ≤ bl.B d := by
  obtain ⟨fuel, hf⟩ := h
  obtain ⟨hlen, ds, hr⟩ := reads_of_trod bl hS lawCx_F fuel t _ _ ht hf hw
  have hp := plain_at hS ht
  cases hagg : aggT P t with
  | true =>
    have : ∃ cs, v = .agg cs := by
      simp only [Value.okWide] at hv
      unfold aggT at hagg
      split at hagg
      · rename_i hu; rw [hu] at hv; obtain ⟨cs, h1, _⟩ := hv; exact ⟨cs, h1⟩
      · rename_i hu; rw [hu] at hv; obtain ⟨cs, h1, _⟩ := hv; exact ⟨cs, h1⟩
      · cases hagg
    obtain ⟨cs, rfl⟩ := this
    refine ⟨.agg ds, ⟨hr.ty, fun _ => ⟨ds, rfl⟩, fun h => (by rw [hagg] at h; cases h), ?_⟩, ?_, by have := hr.bk; rw [if_pos hagg] at this; simpa [D.bulk] using this⟩
    · simp only [D.closed]
      rw [closedL_iff]
      exact fun x hx => (hr.one x hx).2
    · exact .agg ds cs (by simpa [Value.cells] using hr.len) (fun x hx => (hr.one x hx).1) (fun i x u hx hu => hr.rep i x u hx (by simpa [Value.cells] using hu))
  | false =>
    have hone : P.cellsOf t = 1 ∧ ∀ cs, v ≠ .agg cs := by
      simp only [Value.okWide] at hv
      unfold aggT at hagg
      cases hu : P.underlying t with
      | none => rw [hu] at hp; cases hp
      | some u =>
        rw [hu] at hp hv hagg
        cases u <;> simp only at hp hagg <;> try (cases hp; done)
        all_goals (refine ⟨by simp_all, ?_⟩; rintro cs rfl; simp_all [Cell.okWide, Cell.ok])
    have hc : v.cells.toList = [v] := by
      cases v <;> first | rfl | exact absurd rfl (hone.2 _)
    rw [hc] at hr hlen
    match ds, hr.len with
    | [x], _ =>
      have h1 := hr.one x (by simp)
      have hcx : x.cells = [x] := by cases x <;> first | rfl | (simp [D.one] at h1)
      exact ⟨x, ⟨by rw [hcx]; exact hr.ty, fun h => (by rw [hagg] at h; cases h), fun _ => h1.1, h1.2⟩, hr.rep 0 x v rfl rfl, by have := hr.bk; simp only [D.bulkL] at this; omega⟩

theorem args_of_trod (bl : Bulk H) {base : Nat} (hS : plainTys P S = true) : ∀ {ts : List TypeId} {vs : List Value} {ds : List (DataW H)} {ps : List MemPlace}, (∀ t ∈ ts, t ∈ S) → (∀ (j : Nat) t v, ts[j]? = some t → vs[j]? = some v → Value.okWide P W .any base t v) →
    DataW.TrodAll enc P W 0 (fun _ => true) true ts vs ds ps → bl.A ds ≤ bnd →
    ∃ xs : List D, D.bulkL xs ≤ bl.A ds ∧ xs.length = ts.length ∧ xs.length = vs.length ∧ (∀ (i : Nat) t x, ts[i]? = some t → xs[i]? = some x → VTy P t x) ∧ ∀ (i : Nat) x v, xs[i]? = some x → vs[i]? = some v → Rep W (lawCx W).F [] x v
  | [], [], [], _, _, _, _, _ => ⟨[], by simp [D.bulkL], rfl, rfl, by simp, by simp⟩
  | t :: ts, v :: vs, d :: ds, ps, hts, hv, h, hw => by
    obtain ⟨p, q, h1, h2, _⟩ := h
    rw [bl.cons] at hw
    obtain ⟨x, k1, k2, k3⟩ := arg_of_trod bl hS (hts t (by simp)) (hv 0 t v rfl rfl) h1 (by omega)
    obtain ⟨xs, m0, m1, m2, m3, m4⟩ := args_of_trod bl hS (fun t' ht => hts t' (List.mem_cons_of_mem _ ht)) (fun j t' v' a b => hv (j + 1) t' v' (by simpa using a) (by simpa using b)) h2 (by omega)
    refine ⟨x :: xs, by rw [bl.cons]; simp only [D.bulkL]; omega, by simp [m1], by simp [m2], fun i t' x' a b => ?_, fun i x' v' a b => ?_⟩
    · cases i with
      | zero => simp at a b; subst a; subst b; exact k1
      | succ i => exact m3 i t' x' (by simpa using a) (by simpa using b)
    · cases i with
      | zero => simp at a b; subst a; subst b; exact k2
      | succ i => exact m4 i x' v' (by simpa using a) (by simpa using b)

/-- A law's call. -/
theorem law_calls (bl : Bulk H) {f : Nat} {args : Array Value} {ts : List TypeId} {ds : List (DataW H)} {ps : List MemPlace} {base : Nat} (hS : plainTys P S = true) (hts : ∀ t ∈ ts, t ∈ S)
    (hv : ∀ (j : Nat) t v, ts[j]? = some t → args[j]? = some v → Value.okWide P W .any base t v)
    (hA : DataW.TrodAll enc P W 0 (fun _ => true) true ts args.toList ds ps) {m : Nat} (hm : m ≤ bnd) (hw : bl.A ds ≤ m)
    (hev : ∀ xs : List D, xs.length = ts.length → D.bulkL xs ≤ m → (∀ (i : Nat) t x, ts[i]? = some t → xs[i]? = some x → VTy P t x) → Ev P f xs [] (.bool true) []) :
    Calls P f args W fun e W' => e = .returned (.bool true) ∧ Below W.heap.size W W' := by
  obtain ⟨xs, h0, h1, h2, h3, h4⟩ := args_of_trod bl hS hts (fun j t v a b => hv j t v a (by simpa using b)) hA (by omega)
  refine ((hev xs h1 (by omega) h3).go (lawCx W) args lawCx_wf ⟨rfl, by simp⟩ ⟨by simpa using h2, fun i d v a b => CellRel.of_rep (h4 i d v a (by simpa using b))⟩).mono ?_
  rintro e W' ⟨v, c', rfl, rfl, hf, _, _, hr⟩
  have : v = .bool true := rep_bool (show Rep c'.w c'.F c'.j (.bool true) v from hr)
  subst this
  exact ⟨rfl, hf.os, hf.tape, hf.output, hf.le.size, fun k hk => (hf.keep k hk rfl).1⟩

/-- Behind it the arguments read as before. -/
theorem trodAll_below {W' : World} (hl : laidOutB P = true) (hb : Below W.heap.size W W') : ∀ {ts : List TypeId} {vs : List Value} {ds : List (DataW H)} {ps : List MemPlace}, (∀ t ∈ ts, P.readableRec t = true ∧ t < P.types.size) →
    DataW.TrodAll enc P W 0 (fun _ => true) true ts vs ds ps → DataW.TrodAll enc P W' 0 (fun b => decide (b < W.heap.size)) true ts vs ds ps
  | [], [], [], _, _, h => h
  | t :: ts, v :: vs, d :: ds, ps, ht, h => by
    obtain ⟨p, q, h1, h2, h3⟩ := h
    have hlt : ∀ x ∈ p, x.block < W.heap.size := by obtain ⟨m, hm⟩ := h1; exact DataW.trod_lt m _ _ _ hm
    exact ⟨p, q, Below.trod hl (ht t (by simp)).1 (ht t (by simp)).2 h1 hb hlt, trodAll_below hl hb (fun t' h' => ht t' (List.mem_cons_of_mem _ h')) h2, h3⟩

end
end Go.Am
