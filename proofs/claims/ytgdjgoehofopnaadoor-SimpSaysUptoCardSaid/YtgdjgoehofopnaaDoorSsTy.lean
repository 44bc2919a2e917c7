/- Types of the program as data: printed by a program of this session. -/
import Derived.Test.YtgdjgoehofopnaaDoorProg
import Derived.Test.YtgdjgoehofopnaaDoorAm28
set_option linter.unusedSimpArgs false
set_option linter.unusedVariables false
set_option maxRecDepth 10000
namespace Go.Am
open Go
noncomputable abbrev P : Program := Go.Proofs.Tryd.prog
structure T_coded_Coded where
  Kind : Int
  Bits : (List UInt8)
  Set : (Arr Int 4)
  L : (List T_coded_Coded)
mutual
def T_coded_Coded.enc : T_coded_Coded → D
  | ⟨x0, x1, x2, x3⟩ => .agg ([(.int .i64 x0)] ++ ([(.str x1)] ++ ((x2.l.map (D.int .u64)) ++ ([.list (T_coded_Coded.encs x3)] ++ ([])))))
termination_by structural x => x
def T_coded_Coded.encs : List T_coded_Coded → List D
  | [] => []
  | x :: xs => x.enc :: T_coded_Coded.encs xs
termination_by structural x => x
end
theorem T_coded_Coded.encs_eq : ∀ xs : List T_coded_Coded, T_coded_Coded.encs xs = xs.map T_coded_Coded.enc
  | [] => rfl
  | x :: xs => by rw [T_coded_Coded.encs, T_coded_Coded.encs_eq xs]; rfl
def T_coded_Coded.cells (w : Nat → List D → D) (y : T_coded_Coded) : List D := [(.int .i64 y.Kind)] ++ ([(.str y.Bits)] ++ ((y.Set.l.map (D.int .u64)) ++ ([w 6 (y.L.map T_coded_Coded.enc)] ++ ([]))))
theorem T_coded_Coded.enc_eq : ∀ y : T_coded_Coded, y.enc = .agg (T_coded_Coded.cells lw y)
  | ⟨_, _, _, _⟩ => by rw [T_coded_Coded.enc, T_coded_Coded.cells]; simp only [T_coded_Coded.encs_eq]; rfl
theorem T_coded_Coded.enc_cells (y : T_coded_Coded) : D.cells y.enc = T_coded_Coded.cells lw y := by rw [T_coded_Coded.enc_eq]; rfl
theorem T_coded_Coded.len (w : Nat → List D → D) (y : T_coded_Coded) : (T_coded_Coded.cells w y).length = 7 := by
  simp only [T_coded_Coded.cells, List.length_append, List.length_cons, List.length_nil, List.length_map, y.Set.h]
theorem T_coded_Coded.one {w : Nat → List D → D} (hw : Wr w) (y : T_coded_Coded) : (T_coded_Coded.cells w y).all D.one = true := by
  simp only [T_coded_Coded.cells, List.all_append, List.all_cons, List.all_nil, om_int, om_bool, one_of_int, one_of_bool, one_of_str, hw.one, Bool.and_self]
theorem T_coded_Coded.copy {w : Nat → List D → D} (hw : Wr w) (y : T_coded_Coded) : (T_coded_Coded.cells w y).map D.copy = T_coded_Coded.cells lw y := by
  simp only [T_coded_Coded.cells, List.map_append, List.map_cons, List.map_nil, cm_int, cm_bool, copy_of_int, copy_of_bool, copy_of_str, hw.copy]; rfl
theorem T_coded_Coded.closed (y : T_coded_Coded) : (D.agg (T_coded_Coded.cells lw y)).closed = true := by
  simp only [T_coded_Coded.cells, D.closed, closedL_app, D.closedL, closedL_mi, closedL_mb, lw, Bool.and_self]
theorem T_coded_Coded.closed' (y : T_coded_Coded) : D.closedL (T_coded_Coded.cells (fun n => .list) y) = true := T_coded_Coded.closed y
theorem T_coded_Coded.elem (y : T_coded_Coded) : D.elem 7 y.enc = true := elem_of (T_coded_Coded.enc_cells y) (T_coded_Coded.len lw y) (by rw [T_coded_Coded.enc_eq]; exact T_coded_Coded.closed y) (T_coded_Coded.one wr_l y)
theorem T_coded_Coded.ef : EF T_coded_Coded.enc 7 := ⟨fun y => by rw [T_coded_Coded.enc_cells]; exact T_coded_Coded.len lw y, fun y => by rw [T_coded_Coded.enc_cells]; exact T_coded_Coded.copy wr_l y, fun y => by rw [T_coded_Coded.enc_cells]; exact T_coded_Coded.one wr_l y, T_coded_Coded.elem, .inr ⟨by decide, fun y => by rw [T_coded_Coded.enc_cells, T_coded_Coded.enc_eq]⟩⟩
theorem T_coded_Coded.cut_Kind (w : Nat → List D → D) (y : T_coded_Coded) : cut (T_coded_Coded.cells w y) 0 1 = some ([(.int .i64 y.Kind)]) := by
  show cut (T_coded_Coded.cells w y) (0) 1 = _
  exact (cut_in (cut_all rfl))
theorem T_coded_Coded.spl_Kind {w : Nat → List D → D} (y : T_coded_Coded) (v : Int) : splice (T_coded_Coded.cells w y) 0 [(.int .i64 v)] = some (T_coded_Coded.cells w { y with Kind := v }) := by
  show splice (T_coded_Coded.cells w y) (0) [(.int .i64 v)] = some ([(.int .i64 v)] ++ ([(.str y.Bits)] ++ ((y.Set.l.map (D.int .u64)) ++ ([w 6 (y.L.map T_coded_Coded.enc)] ++ ([])))))
  exact (splice_in (splice_all (n := 1) rfl rfl))
theorem T_coded_Coded.cut_Bits (w : Nat → List D → D) (y : T_coded_Coded) : cut (T_coded_Coded.cells w y) 1 1 = some ([(.str y.Bits)]) := by
  show cut (T_coded_Coded.cells w y) (1 + (0)) 1 = _
  exact ((cut_r rfl).trans (cut_in (cut_all rfl)))
theorem T_coded_Coded.spl_Bits {w : Nat → List D → D} (y : T_coded_Coded) (v : (List UInt8)) : splice (T_coded_Coded.cells w y) 1 [(.str v)] = some (T_coded_Coded.cells w { y with Bits := v }) := by
  show splice (T_coded_Coded.cells w y) (1 + (0)) [(.str v)] = some ([(.int .i64 y.Kind)] ++ ([(.str v)] ++ ((y.Set.l.map (D.int .u64)) ++ ([w 6 (y.L.map T_coded_Coded.enc)] ++ ([])))))
  exact (splice_r (n := 1) rfl (splice_in (splice_all (n := 1) rfl rfl)))
theorem T_coded_Coded.cut_Set (w : Nat → List D → D) (y : T_coded_Coded) : cut (T_coded_Coded.cells w y) 2 4 = some (y.Set.l.map (D.int .u64)) := by
  show cut (T_coded_Coded.cells w y) (1 + (1 + (0))) 4 = _
  exact ((cut_r rfl).trans ((cut_r rfl).trans (cut_in (cut_all (by rw [List.length_map]; exact Arr.h _)))))
theorem T_coded_Coded.spl_Set {w : Nat → List D → D} (y : T_coded_Coded) (v : (Arr Int 4)) : splice (T_coded_Coded.cells w y) 2 (v.l.map (D.int .u64)) = some (T_coded_Coded.cells w { y with Set := v }) := by
  show splice (T_coded_Coded.cells w y) (1 + (1 + (0))) (v.l.map (D.int .u64)) = some ([(.int .i64 y.Kind)] ++ ([(.str y.Bits)] ++ ((v.l.map (D.int .u64)) ++ ([w 6 (y.L.map T_coded_Coded.enc)] ++ ([])))))
  exact (splice_r (n := 1) rfl (splice_r (n := 1) rfl (splice_in (splice_all (n := 4) (by rw [List.length_map]; exact Arr.h _) (by rw [List.length_map]; exact Arr.h _)))))
theorem T_coded_Coded.cut_Set_at (w : Nat → List D → D) (y : T_coded_Coded) {i : Nat} {x : Int} (hx : y.Set.l[i]? = some x) : cut (T_coded_Coded.cells w y) (2 + i * 1) 1 = some [(D.int .u64) x] := by
  rw [Nat.mul_one]
  show cut (T_coded_Coded.cells w y) (2 + i) 1 = _
  rw [show 2 + i = 1 + (1 + (i)) by omega]
  exact ((cut_r rfl).trans ((cut_r rfl).trans (cut_in (cut_map hx))))
theorem T_coded_Coded.spl_Set_at {w : Nat → List D → D} (y : T_coded_Coded) {i : Int} {v : Int} (hi : i.toNat < 4) : splice (T_coded_Coded.cells w y) (2 + i.toNat * 1) [(D.int .u64) v] = some (T_coded_Coded.cells w { y with Set := y.Set.set i v }) := by
  rw [Nat.mul_one, show 2 + i.toNat = 1 + (1 + (i.toNat)) by omega]
  show splice (T_coded_Coded.cells w y) _ _ = some ([(.int .i64 y.Kind)] ++ ([(.str y.Bits)] ++ (((y.Set.set i v).l.map (D.int .u64)) ++ ([w 6 (y.L.map T_coded_Coded.enc)] ++ ([])))))
  exact (splice_r (n := 1) rfl (splice_r (n := 1) rfl (splice_in (splice_map (by rw [Arr.h]; exact hi)))))
theorem T_coded_Coded.cut_L (w : Nat → List D → D) (y : T_coded_Coded) : cut (T_coded_Coded.cells w y) 6 1 = some ([w 6 (y.L.map T_coded_Coded.enc)]) := by
  show cut (T_coded_Coded.cells w y) (1 + (1 + (4 + (0)))) 1 = _
  exact ((cut_r rfl).trans ((cut_r rfl).trans ((cut_r (by rw [List.length_map]; exact Arr.h _)).trans (cut_in (cut_all rfl)))))
theorem T_coded_Coded.spl_L {w : Nat → List D → D} {w' : Nat → List D → D} (y : T_coded_Coded) (v : (List T_coded_Coded)) : splice (T_coded_Coded.cells w y) 6 [w' 6 (v.map T_coded_Coded.enc)] = some (T_coded_Coded.cells w' { y with L := v }) := by
  show splice (T_coded_Coded.cells w y) (1 + (1 + (4 + (0)))) [w' 6 (v.map T_coded_Coded.enc)] = some ([(.int .i64 y.Kind)] ++ ([(.str y.Bits)] ++ ((y.Set.l.map (D.int .u64)) ++ ([w' 6 (v.map T_coded_Coded.enc)] ++ ([])))))
  exact (splice_r (n := 1) rfl (splice_r (n := 1) rfl (splice_r (n := 4) (by rw [List.length_map]; exact Arr.h _) (splice_in (splice_all (n := 1) rfl rfl)))))
structure T_ref17_Coded where
  Kind : Int
  Bits : (List UInt8)
  Set : (Arr Bool 256)
  L : (List T_ref17_Coded)
mutual
def T_ref17_Coded.enc : T_ref17_Coded → D
  | ⟨x0, x1, x2, x3⟩ => .agg ([(.int .i64 x0)] ++ ([(.str x1)] ++ ((x2.l.map D.bool) ++ ([.list (T_ref17_Coded.encs x3)] ++ ([])))))
termination_by structural x => x
def T_ref17_Coded.encs : List T_ref17_Coded → List D
  | [] => []
  | x :: xs => x.enc :: T_ref17_Coded.encs xs
termination_by structural x => x
end
theorem T_ref17_Coded.encs_eq : ∀ xs : List T_ref17_Coded, T_ref17_Coded.encs xs = xs.map T_ref17_Coded.enc
  | [] => rfl
  | x :: xs => by rw [T_ref17_Coded.encs, T_ref17_Coded.encs_eq xs]; rfl
def T_ref17_Coded.cells (w : Nat → List D → D) (y : T_ref17_Coded) : List D := [(.int .i64 y.Kind)] ++ ([(.str y.Bits)] ++ ((y.Set.l.map D.bool) ++ ([w 258 (y.L.map T_ref17_Coded.enc)] ++ ([]))))
theorem T_ref17_Coded.enc_eq : ∀ y : T_ref17_Coded, y.enc = .agg (T_ref17_Coded.cells lw y)
  | ⟨_, _, _, _⟩ => by rw [T_ref17_Coded.enc, T_ref17_Coded.cells]; simp only [T_ref17_Coded.encs_eq]; rfl
theorem T_ref17_Coded.enc_cells (y : T_ref17_Coded) : D.cells y.enc = T_ref17_Coded.cells lw y := by rw [T_ref17_Coded.enc_eq]; rfl
theorem T_ref17_Coded.len (w : Nat → List D → D) (y : T_ref17_Coded) : (T_ref17_Coded.cells w y).length = 259 := by
  simp only [T_ref17_Coded.cells, List.length_append, List.length_cons, List.length_nil, List.length_map, y.Set.h]
theorem T_ref17_Coded.one {w : Nat → List D → D} (hw : Wr w) (y : T_ref17_Coded) : (T_ref17_Coded.cells w y).all D.one = true := by
  simp only [T_ref17_Coded.cells, List.all_append, List.all_cons, List.all_nil, om_int, om_bool, one_of_int, one_of_bool, one_of_str, hw.one, Bool.and_self]
theorem T_ref17_Coded.copy {w : Nat → List D → D} (hw : Wr w) (y : T_ref17_Coded) : (T_ref17_Coded.cells w y).map D.copy = T_ref17_Coded.cells lw y := by
  simp only [T_ref17_Coded.cells, List.map_append, List.map_cons, List.map_nil, cm_int, cm_bool, copy_of_int, copy_of_bool, copy_of_str, hw.copy]; rfl
theorem T_ref17_Coded.closed (y : T_ref17_Coded) : (D.agg (T_ref17_Coded.cells lw y)).closed = true := by
  simp only [T_ref17_Coded.cells, D.closed, closedL_app, D.closedL, closedL_mi, closedL_mb, lw, Bool.and_self]
theorem T_ref17_Coded.closed' (y : T_ref17_Coded) : D.closedL (T_ref17_Coded.cells (fun n => .list) y) = true := T_ref17_Coded.closed y
theorem T_ref17_Coded.elem (y : T_ref17_Coded) : D.elem 259 y.enc = true := elem_of (T_ref17_Coded.enc_cells y) (T_ref17_Coded.len lw y) (by rw [T_ref17_Coded.enc_eq]; exact T_ref17_Coded.closed y) (T_ref17_Coded.one wr_l y)
theorem T_ref17_Coded.ef : EF T_ref17_Coded.enc 259 := ⟨fun y => by rw [T_ref17_Coded.enc_cells]; exact T_ref17_Coded.len lw y, fun y => by rw [T_ref17_Coded.enc_cells]; exact T_ref17_Coded.copy wr_l y, fun y => by rw [T_ref17_Coded.enc_cells]; exact T_ref17_Coded.one wr_l y, T_ref17_Coded.elem, .inr ⟨by decide, fun y => by rw [T_ref17_Coded.enc_cells, T_ref17_Coded.enc_eq]⟩⟩
theorem T_ref17_Coded.cut_Kind (w : Nat → List D → D) (y : T_ref17_Coded) : cut (T_ref17_Coded.cells w y) 0 1 = some ([(.int .i64 y.Kind)]) := by
  show cut (T_ref17_Coded.cells w y) (0) 1 = _
  exact (cut_in (cut_all rfl))
theorem T_ref17_Coded.spl_Kind {w : Nat → List D → D} (y : T_ref17_Coded) (v : Int) : splice (T_ref17_Coded.cells w y) 0 [(.int .i64 v)] = some (T_ref17_Coded.cells w { y with Kind := v }) := by
  show splice (T_ref17_Coded.cells w y) (0) [(.int .i64 v)] = some ([(.int .i64 v)] ++ ([(.str y.Bits)] ++ ((y.Set.l.map D.bool) ++ ([w 258 (y.L.map T_ref17_Coded.enc)] ++ ([])))))
  exact (splice_in (splice_all (n := 1) rfl rfl))
theorem T_ref17_Coded.cut_Bits (w : Nat → List D → D) (y : T_ref17_Coded) : cut (T_ref17_Coded.cells w y) 1 1 = some ([(.str y.Bits)]) := by
  show cut (T_ref17_Coded.cells w y) (1 + (0)) 1 = _
  exact ((cut_r rfl).trans (cut_in (cut_all rfl)))
theorem T_ref17_Coded.spl_Bits {w : Nat → List D → D} (y : T_ref17_Coded) (v : (List UInt8)) : splice (T_ref17_Coded.cells w y) 1 [(.str v)] = some (T_ref17_Coded.cells w { y with Bits := v }) := by
  show splice (T_ref17_Coded.cells w y) (1 + (0)) [(.str v)] = some ([(.int .i64 y.Kind)] ++ ([(.str v)] ++ ((y.Set.l.map D.bool) ++ ([w 258 (y.L.map T_ref17_Coded.enc)] ++ ([])))))
  exact (splice_r (n := 1) rfl (splice_in (splice_all (n := 1) rfl rfl)))
theorem T_ref17_Coded.cut_Set (w : Nat → List D → D) (y : T_ref17_Coded) : cut (T_ref17_Coded.cells w y) 2 256 = some (y.Set.l.map D.bool) := by
  show cut (T_ref17_Coded.cells w y) (1 + (1 + (0))) 256 = _
  exact ((cut_r rfl).trans ((cut_r rfl).trans (cut_in (cut_all (by rw [List.length_map]; exact Arr.h _)))))
theorem T_ref17_Coded.spl_Set {w : Nat → List D → D} (y : T_ref17_Coded) (v : (Arr Bool 256)) : splice (T_ref17_Coded.cells w y) 2 (v.l.map D.bool) = some (T_ref17_Coded.cells w { y with Set := v }) := by
  show splice (T_ref17_Coded.cells w y) (1 + (1 + (0))) (v.l.map D.bool) = some ([(.int .i64 y.Kind)] ++ ([(.str y.Bits)] ++ ((v.l.map D.bool) ++ ([w 258 (y.L.map T_ref17_Coded.enc)] ++ ([])))))
  exact (splice_r (n := 1) rfl (splice_r (n := 1) rfl (splice_in (splice_all (n := 256) (by rw [List.length_map]; exact Arr.h _) (by rw [List.length_map]; exact Arr.h _)))))
theorem T_ref17_Coded.cut_Set_at (w : Nat → List D → D) (y : T_ref17_Coded) {i : Nat} {x : Bool} (hx : y.Set.l[i]? = some x) : cut (T_ref17_Coded.cells w y) (2 + i * 1) 1 = some [D.bool x] := by
  rw [Nat.mul_one]
  show cut (T_ref17_Coded.cells w y) (2 + i) 1 = _
  rw [show 2 + i = 1 + (1 + (i)) by omega]
  exact ((cut_r rfl).trans ((cut_r rfl).trans (cut_in (cut_map hx))))
theorem T_ref17_Coded.spl_Set_at {w : Nat → List D → D} (y : T_ref17_Coded) {i : Int} {v : Bool} (hi : i.toNat < 256) : splice (T_ref17_Coded.cells w y) (2 + i.toNat * 1) [D.bool v] = some (T_ref17_Coded.cells w { y with Set := y.Set.set i v }) := by
  rw [Nat.mul_one, show 2 + i.toNat = 1 + (1 + (i.toNat)) by omega]
  show splice (T_ref17_Coded.cells w y) _ _ = some ([(.int .i64 y.Kind)] ++ ([(.str y.Bits)] ++ (((y.Set.set i v).l.map D.bool) ++ ([w 258 (y.L.map T_ref17_Coded.enc)] ++ ([])))))
  exact (splice_r (n := 1) rfl (splice_r (n := 1) rfl (splice_in (splice_map (by rw [Arr.h]; exact hi)))))
theorem T_ref17_Coded.cut_L (w : Nat → List D → D) (y : T_ref17_Coded) : cut (T_ref17_Coded.cells w y) 258 1 = some ([w 258 (y.L.map T_ref17_Coded.enc)]) := by
  show cut (T_ref17_Coded.cells w y) (1 + (1 + (256 + (0)))) 1 = _
  exact ((cut_r rfl).trans ((cut_r rfl).trans ((cut_r (by rw [List.length_map]; exact Arr.h _)).trans (cut_in (cut_all rfl)))))
theorem T_ref17_Coded.spl_L {w : Nat → List D → D} {w' : Nat → List D → D} (y : T_ref17_Coded) (v : (List T_ref17_Coded)) : splice (T_ref17_Coded.cells w y) 258 [w' 258 (v.map T_ref17_Coded.enc)] = some (T_ref17_Coded.cells w' { y with L := v }) := by
  show splice (T_ref17_Coded.cells w y) (1 + (1 + (256 + (0)))) [w' 258 (v.map T_ref17_Coded.enc)] = some ([(.int .i64 y.Kind)] ++ ([(.str y.Bits)] ++ ((y.Set.l.map D.bool) ++ ([w' 258 (v.map T_ref17_Coded.enc)] ++ ([])))))
  exact (splice_r (n := 1) rfl (splice_r (n := 1) rfl (splice_r (n := 256) (by rw [List.length_map]; exact Arr.h _) (splice_in (splice_all (n := 1) rfl rfl)))))
mutual
def T_coded_Coded.ok : T_coded_Coded → Prop
  | ⟨x0, x1, x2, x3⟩ => (Lit.int .i64 x0).wf = true ∧ x1.length ≤ Go.Am.bnd ∧ (∀ z ∈ x2.l, (Lit.int .u64 z).wf = true) ∧ (T_coded_Coded.oks x3)
termination_by structural x => x
def T_coded_Coded.oks : List T_coded_Coded → Prop
  | [] => True
  | x :: xs => x.ok ∧ T_coded_Coded.oks xs
termination_by structural x => x
end
theorem T_coded_Coded.oks_iff : ∀ {l : List T_coded_Coded}, T_coded_Coded.oks l ↔ ∀ y ∈ l, y.ok
  | [] => by simp [T_coded_Coded.oks]
  | x :: xs => by simp [T_coded_Coded.oks, T_coded_Coded.oks_iff (l := xs)]
theorem T_coded_Coded.ok_iff : ∀ y : T_coded_Coded, y.ok ↔ (Lit.int .i64 y.Kind).wf = true ∧ y.Bits.length ≤ Go.Am.bnd ∧ (∀ z ∈ y.Set.l, (Lit.int .u64 z).wf = true) ∧ (∀ z ∈ y.L, z.ok)
  | ⟨_, _, _, _⟩ => by rw [T_coded_Coded.ok, T_coded_Coded.oks_iff]
theorem T_coded_Coded.ofE (y : T_coded_Coded) : ofElem (T_coded_Coded.cells lw y) = y.enc := by rw [T_coded_Coded.enc_eq]; exact ofElem_agg (by rw [T_coded_Coded.len]; decide)
theorem T_coded_Coded.dec2 : (∀ {cs}, Ty P 27 cs → ∃ y, cs = T_coded_Coded.cells lw y ∧ y.ok) ∧ (∀ {cs}, Ty P 25 cs → ∃ l : List T_coded_Coded, cs = [.list (l.map T_coded_Coded.enc)] ∧ ∀ y ∈ l, y.ok) := by
  refine Ty.dec_rec' (ts := [3, 9, 24, 25]) (show P.underlying 25 = some (.slice 27) from by kernel_rfl) (show P.underlying 27 = some (.struct (fsOf P 27)) from by kernel_rfl) (by kernel_rfl) T_coded_Coded.ofE (fun css hlen hc => ?_)
  obtain ⟨c0, c1, c2, c3, rfl⟩ := len4 hlen
  have h0 := hc 0 3 c0 rfl rfl
  obtain ⟨x0, rfl, k0⟩ := (h0.1.inv_int (show P.underlying 3 = some (.int .i64) from by kernel_rfl))
  have h1 := hc 1 9 c1 rfl rfl
  obtain ⟨x1, rfl, k1⟩ := (h1.1.inv_str (show P.underlying 9 = some (.string) from by kernel_rfl))
  have h2 := hc 2 24 c2 rfl rfl
  obtain ⟨x2, rfl, k2⟩ := (h2.1.arr_int (show P.underlying 24 = some (.array 4 22) from by kernel_rfl) (show P.underlying 22 = some (.int .u64) from by kernel_rfl))
  have h3 := hc 3 25 c3 rfl rfl
  obtain ⟨x3, rfl, k3⟩ := h3.2 rfl
  refine ⟨⟨x0, x1, x2, x3⟩, ?_, (T_coded_Coded.ok_iff _).2 ⟨k0, k1, k2, k3⟩⟩
  simp only [List.flatten_cons, List.flatten_nil, T_coded_Coded.cells]; rfl
theorem T_coded_Coded.dec {cs : List D} (h : Ty P 27 cs) : ∃ y, cs = T_coded_Coded.cells lw y ∧ y.ok := T_coded_Coded.dec2.1 h
end Go.Am
