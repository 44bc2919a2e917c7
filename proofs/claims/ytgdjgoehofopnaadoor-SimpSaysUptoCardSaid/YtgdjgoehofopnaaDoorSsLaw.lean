/- catchpolelaw18.SimpSays: wherever what it reads is of bulk at most 1048576, the law answers true and its arguments read as before; tied to the program's text. -/
import Derived.Test.YtgdjgoehofopnaaDoorSsP7
import Derived.Test.YtgdjgoehofopnaaDoorCards
import Derived.Test.YtgdjgoehofopnaaDoorTie
import Derived.WalkKit
import Derived.ProofKit
import Derived.OpenShut
import Derived.Deep.DeepHandedRow
import Derived.Lib.LaidTab
set_option linter.unusedVariables false
namespace Go.Proofs.YtgdjgoehofopnaaDoor.simpSays
open Go Go.Am Go.ChangeShapes Go.WideShapes Go.ChangeAt Go.RowKit

theorem own : ownKnob Tryd.prog.godebug = none := by kernel_rfl
theorem laidOut : laidOutB Tryd.prog = true := by kernel_rfl
def upBulk (H : Type) : Go.Am.Bulk H where
  B := Rows.uptoBulk
  A := Rows.uptoBulkAll
  str := fun s => by simp only [Rows.uptoBulk]
  lit := fun l => by cases l <;> simp [Rows.uptoBulk]
  nil := by simp [Rows.uptoBulk]
  slice := fun e s => by simp only [Rows.uptoBulk]; omega
  agg := fun ps => by simp only [Rows.uptoBulk]; omega
  none := by simp only [Rows.uptoBulkAll]
  cons := fun d r => by simp only [Rows.uptoBulkAll]
theorem agg27 : aggT Tryd.prog 27 = true := by kernel_rfl
theorem agg25 : aggT Tryd.prog 25 = false := by kernel_rfl

/-- The law, at any values of its arguments' types. -/
theorem law_ev (xs : List D) (hl : xs.length = [27, 25].length) (hb : D.bulkL xs ≤ 1048576) (ht : ∀ (i : Nat) t x, ([27, 25] : List TypeId)[i]? = some t → xs[i]? = some x → VTy Tryd.prog t x) : Ev Tryd.prog 3 xs [] (.bool true) [] := by
  obtain ⟨a, b, rfl⟩ := len2 hl
  have h0 := ht 0 27 a rfl rfl
  have h1 := ht 1 25 b rfl rfl
  obtain ⟨cs, rfl⟩ := h0.agg agg27
  obtain ⟨x, hx, okx⟩ := T_coded_Coded.dec (show Ty Go.Am.P 27 cs from h0.ty)
  subst hx
  have hb1 : b.cells = [b] := by have := h1.one agg25; cases b <;> first | rfl | cases this
  obtain ⟨l, hl', okl⟩ := T_coded_Coded.dec2.2 (show Ty Go.Am.P 25 b.cells from h1.ty)
  rw [hb1] at hl'
  injection hl' with hl' _
  subst hl'
  have hbx : D.bulk x.enc + D.bulkL (l.map T_coded_Coded.enc) ≤ 1048576 := by
    rw [T_coded_Coded.enc_eq]
    simp only [D.bulkL, D.bulk] at hb ⊢
    omega
  have s1 := bulk_sz x
  have s2 := bulks_sz l
  obtain ⟨k, hk⟩ := (says_ev x okx (by omega) (by omega) l okl (by omega) (by omega)).ex
  exact s_law18_SimpSays k x l true hk []

set_option maxRecDepth 100000 in
theorem contract (H : Type) (enc : TypeId × Value → H) (W : World) (base : Nat) (args : Array Value) (ds gs : List (DataW H)) (before : List MemPlace)
    (hval : ∀ (j : Nat) t v, Tryd.f3.params[j]? = some t → args[j]? = some v → Value.okWide Tryd.prog W .any base t v)
    (hW : DataW.Whole enc Tryd.prog Tryd.f3.params.toList Rows.simpSaysSpec.vars false W args.toList ds gs before) (hk : Rows.uptoSmall H (ds ++ gs) = true) :
    Calls Tryd.prog 3 args W fun e W' => ∃ v, e = .returned v ∧ Rows.simpSaysSpec.post enc Tryd.prog Tryd.f3 false true false false W args v W' := by
  have hW' := hW
  obtain ⟨p, q, hA0, hV, rfl, hfz, hnd⟩ := hW
  have hA : DataW.TrodAll enc Tryd.prog W 0 (fun _ => true) true Tryd.f3.params.toList args.toList ds p := hA0
  obtain ⟨rfl, rfl⟩ := trodVars_none hV
  have hb : Rows.uptoBulkAll ds ≤ 1048576 := by
    have := of_decide_eq_true hk
    rwa [List.append_nil] at this
  rw [Tryd.params3] at hA hval
  have hval2 : ∀ (j : Nat) t v, ([27, 25] : List TypeId)[j]? = some t → args[j]? = some v → Value.okWide Tryd.prog W .any base t v := by
    intro j t v a b
    refine hval j t v ?_ b
    rw [List.getElem?_toArray]
    exact a
  have hm : (1048576 : Nat) ≤ bnd := of_decide_eq_true (by kernel_rfl)
  have hts : ∀ t ∈ ([27, 25] : List TypeId), Tryd.prog.readableRec t = true ∧ t < Tryd.prog.types.size := by
    intro t ht
    rcases List.mem_cons.1 ht with rfl | ht
    · exact ⟨by kernel_rfl, of_decide_eq_true (by kernel_rfl)⟩
    · rcases List.mem_cons.1 ht with rfl | ht
      · exact ⟨by kernel_rfl, of_decide_eq_true (by kernel_rfl)⟩
      · cases ht
  have hA' := hA
  obtain ⟨v0, vs0, d0, ds0, p0, q0, e0, rfl, rfl, h0, r0⟩ := trodAll_cons hA'
  obtain ⟨v1, vs1, d1, ds1, p1, q1, e1, rfl, rfl, h1, r1⟩ := trodAll_cons r0
  obtain ⟨rfl, rfl, rfl⟩ := trodAll_nil r1
  refine (law_calls (upBulk H) (S := [3, 4, 9, 22, 24, 25, 27]) (f := 3) (ts := [27, 25]) (by kernel_rfl) (by simp) hval2 hA (m := 1048576) hm hb law_ev).mono fun e W' ⟨he, bel⟩ => ?_
  subst he
  exact ⟨_, rfl, _, _, _, [], _, [], hW', trodAll_mk1 (shut_bool Tryd.underlying4 _), trodAll_below laidOut bel hts hA, rfl, bel.frame _, fun h => by cases h⟩

/-- A world for the witness: the tables hold what their initialisers lay. -/
def cell1 : DataW Unit → Value
  | .lit (.int k n) => .int k n
  | _ => .int .i64 0
def parts : DataW Unit → List (DataW Unit)
  | .agg ps => ps
  | _ => []
def put (cs : List Value) : Obj → Obj
  | .cells _ t frozen => .cells cs.toArray t frozen
  | o => o
noncomputable def laidWorld (os : Os) : World :=
  { World.holding Tryd.prog os ⟨#[], #[], []⟩ with heap := ((World.holding Tryd.prog os ⟨#[], #[], []⟩).heap.modify 2 (put ((parts Rows.laid_unicode_utf8_first).map cell1))).modify 3 (put (((parts Rows.laid_unicode_utf8_acceptRanges).flatMap parts).map cell1)) }
def wit : Array Value := #[.agg #[.int .i64 0, .string ByteArray.empty, .int .u64 0, .int .u64 0, .int .u64 0, .int .u64 0, .slice none 0 0], .slice none 0 0]
theorem laid_met (os : Os) : laidMet Tryd.prog Rows.simpSaysRow.laid ((laidWorld os).forCall (fun _ _ => 0) ⟨#[], wit, []⟩).memory :=
  laidMet_of_run' 8 (by kernel_rfl) (by kernel_rfl)
theorem reads (os : Os) {H : Type} (enc : TypeId × Value → H) : ∃ places, DataW.whole enc Tryd.prog ((laidWorld os).forCall (fun _ _ => 0) ⟨#[], wit, []⟩).memory Tryd.f3.params.toList Rows.simpSaysSpec.vars false wit.toList 8 = some ([.agg [.lit (.int .i64 0), .lit (.string []), .agg [.lit (.int .u64 0), .lit (.int .u64 0), .lit (.int .u64 0), .lit (.int .u64 0)], .nil], .nil], [], places) :=
  ⟨[], by kernel_rfl⟩

set_option maxRecDepth 100000 in
theorem liftedUpto (os : Os) (started : os.Started) (H : Type) (enc : TypeId × Value → H) (F : Stop.Interp) :
    ReturnsInHanded {} Tryd.checked os 3 .any ((Rows.OpenSpec.upto Rows.simpSaysSpec).preRow enc Tryd.prog Tryd.f3 Rows.simpSaysUptoRow.domain false Rows.simpSaysUptoRow.laid) (((Rows.OpenSpec.upto Rows.simpSaysSpec).at F).post enc Tryd.prog Tryd.f3 false true false false) := by
  obtain ⟨places, hx⟩ := reads os enc
  refine returnsInHanded_of_row (C := Tryd.checked) (s := Rows.OpenSpec.upto Rows.simpSaysSpec) own started (by kernel_rfl) Tryd.func3
    (witness_row_at (enc := enc) (C := Tryd.checked) false (laidWorld os) wit rfl (by kernel_rfl) (by kernel_rfl) (by kernel_rfl)
      (OpenSpec.preRow_of_cond 8 hx (by kernel_rfl) (fun k hk => by cases hk; kernel_rfl) (by kernel_rfl) (laid_met os))) ?_
  intro W base args ds gs before hval hW _ hcond _ _ _ _
  exact contract H enc W base args ds gs before hval hW (hcond _ rfl)

theorem saidUpto : Rows.SimpSaysUptoSaid :=
  OpenClaim.holds_of_cond 3 Tryd.f3 rfl rfl rfl rfl rfl rfl rfl ⟨rfl, rfl, rfl, rfl, rfl⟩ rfl rfl rfl rfl rfl (by kernel_rfl) Tryd.func3 (by kernel_rfl)
    (of_decide_eq_true (by kernel_rfl)) (by unfold Func.isWrapper; first | (rw [if_pos (by decide +kernel)]; kernel_rfl) | (rw [if_neg (by decide +kernel)]; exact ⟨rfl, rfl⟩))
    (fun os started H enc _ F => by rw [OpenClaim.pre_eq_preRow]; exact liftedUpto os started H enc F)

theorem plain (f : FuncId) (fn : Func) (hf : Tryd.pinned.checked.prog.funcNamed "catchpole/catchpolelaw18.SimpSays" = some f) (hfn : Tryd.pinned.checked.prog.funcs[f]? = some fn) :
    false = Tryd.pinned.checked.prog.looks [] ∧ ∀ (j : Nat) t, fn.params[j]? = some t → Tryd.pinned.checked.prog.wantsStandIn t = false := by
  obtain rfl : f = 3 := Option.some.inj ((show Tryd.prog.funcNamed "catchpole/catchpolelaw18.SimpSays" = some 3 by kernel_rfl).symm.trans hf) |>.symm
  obtain rfl : fn = Tryd.f3 := (Option.some.inj (Tryd.func3.symm.trans hfn)).symm
  refine ⟨by kernel_rfl, fun j t ht => ?_⟩
  rw [Tryd.params3] at ht
  have := Array.mem_of_getElem? ht
  simp only [List.mem_toArray, List.mem_cons, List.not_mem_nil, or_false] at this
  rcases this with rfl | rfl
  · exact (show Tryd.prog.wantsStandIn 27 = false by kernel_rfl)
  · exact (show Tryd.prog.wantsStandIn 25 = false by kernel_rfl)

theorem cardUpto : Rows.SimpSaysUptoCardSaid :=
  Claim7.holds_tied_plain_at .later [] _ _ _ _ saidUpto (fun _ h => by cases h) (by kernel_rfl) (fun _ h => by cases h) simpSaysUpto_row_tie rfl ⟨rfl, rfl⟩ (by kernel_rfl) rfl plain (by kernel_rfl)
end Go.Proofs.YtgdjgoehofopnaaDoor.simpSays
namespace Go.Proofs.YtgdjgoehofopnaaDoor
/-- The second form's card of SimpSays. -/
theorem simpSaysUpto_holds : Rows.SimpSaysUptoCardSaid := simpSays.cardUpto
end Go.Proofs.YtgdjgoehofopnaaDoor
#print axioms Go.Proofs.YtgdjgoehofopnaaDoor.simpSaysUpto_holds
