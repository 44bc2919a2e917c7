/- Steps that a program prints: operands, numbers. -/
import Derived.Test.YtgdjgoehofopnaaDoorAm26
set_option linter.unusedVariables false
namespace Go.Am
open Go Go.Lib
section
variable {e : Nat → Slot} {H : List (Option (List D))} {n : Nat} {d d' : D}
theorem vt (h : e n = .d d) (hc : d.copy = d') : St.val ⟨e, H⟩ (.t n) = some d' := by simp only [St.val, h, hc]
theorem vk (hc : d.copy = d') : St.val ⟨e, H⟩ (.k d) = some d' := by simp only [St.val, hc]
theorem gt_ (h : e n = .d d) (hc : d.copy = d') : St.give ⟨e, H⟩ (.t n) = some d' := by simp only [St.give, h, hc]
theorem gk_ : St.give ⟨e, H⟩ (.k d) = some d := rfl
theorem lv_v {cs : List D} (h : e n = .var cs) : St.lv ⟨e, H⟩ n = some (.var n 0) := by simp only [St.lv, h]
theorem lv_l {s o : Nat} (h : e n = .loc s o) : St.lv ⟨e, H⟩ n = some (.var s o) := by simp only [St.lv, h]
end
def andI (k : IntKind) (a b : Int) : Int := bits k (· &&& ·) a b
def orI (k : IntKind) (a b : Int) : Int := bits k (· ||| ·) a b
def xorI (k : IntKind) (a b : Int) : Int := bits k (· ^^^ ·) a b
def andNotI (k : IntKind) (a b : Int) : Int := bits k (fun x y => x &&& ~~~y) a b
def notI (k : IntKind) (a : Int) : Int := bits k (· ^^^ ·) (if k.signed then -1 else k.max) a
def shlI (k : IntKind) (a b : Int) : Int := k.wrap (a * 2 ^ (min b.toNat k.bits))
def shrI (k : IntKind) (a b : Int) : Int := a.fdiv (2 ^ (min b.toNat k.bits))
section
variable {q q' : IntKind} {a b : Int} {s t : List UInt8}
theorem bin_add : bin .add (.int q a) (.int q b) = some (.int q (q.wrap (a + b))) := if_pos rfl
theorem bin_sub : bin .sub (.int q a) (.int q b) = some (.int q (q.wrap (a - b))) := if_pos rfl
theorem bin_mul : bin .mul (.int q a) (.int q b) = some (.int q (q.wrap (a * b))) := if_pos rfl
theorem bin_and : bin .and (.int q a) (.int q b) = some (.int q (andI q a b)) := if_pos rfl
theorem bin_or : bin .or (.int q a) (.int q b) = some (.int q (orI q a b)) := if_pos rfl
theorem bin_xor : bin .xor (.int q a) (.int q b) = some (.int q (xorI q a b)) := if_pos rfl
theorem bin_andNot : bin .andNot (.int q a) (.int q b) = some (.int q (andNotI q a b)) := if_pos rfl
theorem bin_eql : bin .eql (.int q a) (.int q b) = some (.bool (a == b)) := if_pos rfl
theorem bin_neq : bin .neq (.int q a) (.int q b) = some (.bool (a != b)) := if_pos rfl
theorem bin_lss : bin .lss (.int q a) (.int q b) = some (.bool (decide (a < b))) := if_pos rfl
theorem bin_leq : bin .leq (.int q a) (.int q b) = some (.bool (decide (a ≤ b))) := if_pos rfl
theorem bin_gtr : bin .gtr (.int q a) (.int q b) = some (.bool (decide (a > b))) := if_pos rfl
theorem bin_geq : bin .geq (.int q a) (.int q b) = some (.bool (decide (a ≥ b))) := if_pos rfl
theorem bin_shl' (h : 0 ≤ b) : bin .shl (.int q a) (.int q' b) = some (.int q (shlI q a b)) := bin_shl h
theorem bin_shr' (h : 0 ≤ b) : bin .shr (.int q a) (.int q' b) = some (.int q (shrI q a b)) := bin_shr h
theorem bin_seql : bin .eql (.str s) (.str t) = some (.bool (s == t)) := rfl
theorem bin_sneq : bin .neq (.str s) (.str t) = some (.bool (!(s == t))) := rfl
theorem bin_slss : bin .lss (.str s) (.str t) = some (.bool (Op.bytesLess s t)) := rfl
theorem bin_sleq : bin .leq (.str s) (.str t) = some (.bool (Op.bytesLess s t || s == t)) := rfl
theorem bin_sgtr : bin .gtr (.str s) (.str t) = some (.bool (!(Op.bytesLess s t || s == t))) := rfl
theorem bin_sgeq : bin .geq (.str s) (.str t) = some (.bool (!(Op.bytesLess s t))) := rfl
theorem un_neg : un .neg (.int q a) = some (.int q (q.wrap (0 - a))) := rfl
theorem un_xor : un .xor (.int q a) = some (.int q (notI q a)) := rfl
theorem un_not {x : Bool} : un .not (.bool x) = some (.bool (!x)) := rfl
theorem mm_max : min2 true (.int q a) (.int q b) = some (.int q (if b > a then b else a)) := if_pos rfl
theorem mm_min : min2 false (.int q a) (.int q b) = some (.int q (if b < a then b else a)) := if_pos rfl
def mxI (a b : Int) : Int := if b > a then b else a
def mnI (a b : Int) : Int := if b < a then b else a
theorem mm_max2 : minmaxOf true [.int q a, .int q b] = some (.int q (mxI a b)) := by simp only [minmaxOf, List.foldlM, mm_max, mxI]; rfl
theorem mm_min2 : minmaxOf false [.int q a, .int q b] = some (.int q (mnI a b)) := by simp only [minmaxOf, List.foldlM, mm_min, mnI]; rfl
end
theorem ne_t {b : Bool} (h : b = true) : b ≠ false := by rw [h]; decide
theorem ne_f {b : Bool} (h : b = false) : b ≠ true := by rw [h]; decide
theorem bf {b : Bool} (h : ¬ b = true) : b = false := by cases b <;> simp_all
theorem cut_map' {α : Type} {f : α → D} {xs : List α} {i : Nat} {x : α} (h : xs[i]? = some x) : cut (xs.map f) (0 + i * 1) 1 = some [f x] := by rw [Nat.mul_one, Nat.zero_add]; exact cut_map h
theorem cut_map'' {α : Type} {f : α → D} {xs : List α} {i : Nat} {x : α} (h : xs[i]? = some x) : cut (xs.map f) (i * 1) 1 = some [f x] := by rw [Nat.mul_one]; exact cut_map h
theorem splice_map' {α : Type} {f : α → D} {n : Nat} {xs : Arr α n} {i : Int} {x : α} (h : i.toNat < n) : splice (xs.l.map f) (0 + i.toNat * 1) [f x] = some ((xs.set i x).l.map f) := by rw [Nat.mul_one, Nat.zero_add]; exact splice_map (by rw [xs.h]; exact h)
/-- An array's element. -/
def Arr.at_ {α : Type} {n : Nat} (a : Arr α n) (i : Int) : Option α := Am.at_ a.l i
theorem arr_some {α : Type} {n : Nat} {a : Arr α n} {i : Int} {x : α} (h : a.at_ i = some x) : (0 ≤ i ∧ i < (n : Int)) ∧ a.l[i.toNat]? = some x := by
  obtain ⟨h0, h1⟩ := at_some h
  have := (List.getElem?_eq_some_iff.1 h1).1
  rw [a.h] at this
  exact ⟨⟨h0, by omega⟩, h1⟩
theorem toBytes_bytes (s : List Int) : toBytes (s.map (D.int .u8)) = some (s.map fun n => UInt8.ofNat n.toNat) := toBytes_map s (fun _ _ => trivial)
def bytesOf (s : List UInt8) : List Int := s.map fun b => (b.toNat : Int)
def strOf (s : List Int) : List UInt8 := s.map fun n => UInt8.ofNat n.toNat
theorem toBytes_b (s : List Int) : toBytes (s.map (D.int .u8)) = some (strOf s) := toBytes_bytes s
theorem ofBytes_b (s : List UInt8) : ofBytes s = (bytesOf s).map (D.int .u8) := ofBytes_map s
theorem o_cvb' {C : Con} {is : List AI} {Q : St → Prop} {e : Nat → Slot} {H : List (Option (List D))} {m : Nat} {a : AO} {s : List UInt8} (ha : St.val ⟨e, H⟩ a = some (.str s)) (k : wpo C is Q ⟨upd e m (.d (.list ((bytesOf s).map (D.int .u8)))), H⟩) : wpo C ({ dst := some m, op := .conv .bytes a } :: is) Q ⟨e, H⟩ :=
  o_cvb ha (by rw [ofBytes_b]; exact k)
instance {α : Type} {n : Nat} [BEq α] : BEq (Arr α n) := ⟨fun a b => a.l == b.l⟩
theorem deq_arr_int {q : IntKind} {n : Nat} {a b : Arr Int (n + 1)} : deq .int (n + 1) (.agg (a.l.map (D.int q))) (.agg (b.l.map (D.int q))) = some (a == b) :=
  deq_agg (by rw [List.length_map, a.h]) (deqs_int a.h b.h)
theorem deq_arr_bool {n : Nat} {a b : Arr Bool (n + 1)} : deq .bool (n + 1) (.agg (a.l.map D.bool)) (.agg (b.l.map D.bool)) = some (a == b) :=
  deq_agg (by rw [List.length_map, a.h]) (deqs_bool a.h b.h)
theorem deq_bool {a b : Bool} : deq .bool 0 (.bool a) (.bool b) = some (a == b) := rfl
/-- A part of a row. -/
def sub {α : Type} (xs : List α) (lo hi : Int) : List α := (xs.drop lo.toNat).take (hi.toNat - lo.toNat)
section
variable {C : Con} {is : List AI} {Q : St → Prop} {e : Nat → Slot} {H : List (Option (List D))} {m : Nat} {a lo hi : AO} {s : List UInt8} {q q' : IntKind} {l h : Int}
theorem o_sls_lh (ha : St.val ⟨e, H⟩ a = some (.str s)) (hl : St.val ⟨e, H⟩ lo = some (.int q l)) (hh : St.val ⟨e, H⟩ hi = some (.int q' h)) (hc : 0 ≤ l ∧ l ≤ h ∧ h ≤ (s.length : Int)) (k : wpo C is Q ⟨upd e m (.d (.str (sub s l h))), H⟩) : wpo C ({ dst := some m, op := .sls a (some lo) (some hi) } :: is) Q ⟨e, H⟩ :=
  o_sls ha (b_some hl hc.1) (b_some hh (by omega)) (by omega) k
theorem o_sls_l (ha : St.val ⟨e, H⟩ a = some (.str s)) (hl : St.val ⟨e, H⟩ lo = some (.int q l)) (hc : 0 ≤ l ∧ l ≤ (s.length : Int)) (k : wpo C is Q ⟨upd e m (.d (.str (s.drop l.toNat))), H⟩) : wpo C ({ dst := some m, op := .sls a (some lo) none } :: is) Q ⟨e, H⟩ := by
  refine o_sls ha (b_some hl hc.1) b_none (by omega) ?_
  rw [List.take_of_length_le (by rw [List.length_drop]; omega)]; exact k
theorem o_sls_h (ha : St.val ⟨e, H⟩ a = some (.str s)) (hh : St.val ⟨e, H⟩ hi = some (.int q h)) (hc : 0 ≤ h ∧ h ≤ (s.length : Int)) (k : wpo C is Q ⟨upd e m (.d (.str (s.take h.toNat))), H⟩) : wpo C ({ dst := some m, op := .sls a none (some hi) } :: is) Q ⟨e, H⟩ := by
  refine o_sls ha b_none (b_some hh hc.1) (by omega) ?_
  rw [List.drop_zero, Nat.sub_zero]; exact k
theorem o_sls_n (ha : St.val ⟨e, H⟩ a = some (.str s)) (k : wpo C is Q ⟨upd e m (.d (.str s)), H⟩) : wpo C ({ dst := some m, op := .sls a none none } :: is) Q ⟨e, H⟩ := by
  refine o_sls ha b_none b_none (by omega) ?_
  rw [List.drop_zero, Nat.sub_zero, List.take_length]; exact k
variable {α : Type} {f : α → D} {xs : List α} {sz : Nat}
theorem o_sll_lh (he : ∀ x, D.elem sz (f x) = true) (ha : St.val ⟨e, H⟩ a = some (.list (xs.map f))) (hl : St.val ⟨e, H⟩ lo = some (.int q l)) (hh : St.val ⟨e, H⟩ hi = some (.int q' h)) (hc : 0 ≤ l ∧ l ≤ h ∧ h ≤ (xs.length : Int)) (k : wpo C is Q ⟨upd e m (.d (.list ((sub xs l h).map f))), H⟩) : wpo C ({ dst := some m, op := .sll sz a (some lo) (some hi) } :: is) Q ⟨e, H⟩ :=
  o_sll he ha (b_some hl hc.1) (b_some hh (by omega)) (by omega) k
theorem o_sll_l (he : ∀ x, D.elem sz (f x) = true) (ha : St.val ⟨e, H⟩ a = some (.list (xs.map f))) (hl : St.val ⟨e, H⟩ lo = some (.int q l)) (hc : 0 ≤ l ∧ l ≤ (xs.length : Int)) (k : wpo C is Q ⟨upd e m (.d (.list ((xs.drop l.toNat).map f))), H⟩) : wpo C ({ dst := some m, op := .sll sz a (some lo) none } :: is) Q ⟨e, H⟩ := by
  refine o_sll he ha (b_some hl hc.1) b_none (by omega) ?_
  rw [List.take_of_length_le (by rw [List.length_drop]; omega)]; exact k
theorem o_sll_h (he : ∀ x, D.elem sz (f x) = true) (ha : St.val ⟨e, H⟩ a = some (.list (xs.map f))) (hh : St.val ⟨e, H⟩ hi = some (.int q h)) (hc : 0 ≤ h ∧ h ≤ (xs.length : Int)) (k : wpo C is Q ⟨upd e m (.d (.list ((xs.take h.toNat).map f))), H⟩) : wpo C ({ dst := some m, op := .sll sz a none (some hi) } :: is) Q ⟨e, H⟩ := by
  refine o_sll he ha b_none (b_some hh hc.1) (by omega) ?_
  rw [List.drop_zero, Nat.sub_zero]; exact k
theorem o_sll_n (he : ∀ x, D.elem sz (f x) = true) (ha : St.val ⟨e, H⟩ a = some (.list (xs.map f))) (k : wpo C is Q ⟨upd e m (.d (.list (xs.map f))), H⟩) : wpo C ({ dst := some m, op := .sll sz a none none } :: is) Q ⟨e, H⟩ := by
  refine o_sll he ha b_none b_none (by omega) ?_
  rw [List.drop_zero, Nat.sub_zero, List.take_length]; exact k
end
def Arr.gd {α : Type} {n : Nat} (a : Arr α n) (i : Int) (z : α) : α := a.l.getD i.toNat z
theorem arr_gd {α : Type} {n : Nat} {a : Arr α n} {i : Int} {z : α} (h : 0 ≤ i ∧ i < (n : Int)) : a.l[i.toNat]? = some (a.gd i z) := by
  unfold Arr.gd
  rw [List.getD_eq_getElem?_getD, List.getElem?_eq_getElem (by rw [a.h]; omega)]; rfl
theorem cc_int {q : IntKind} {x : Int} : (D.cells (.int q x)).map D.copy = [.int q x] := rfl
theorem cc_bool {x : Bool} : (D.cells (.bool x)).map D.copy = [.bool x] := rfl
theorem cc_str {x : List UInt8} : (D.cells (.str x)).map D.copy = [.str x] := rfl
theorem cc_list {x : List D} : (D.cells (.list x)).map D.copy = [.list x] := rfl
theorem closed_ai {q : IntKind} {xs : List Int} : D.closed (.agg (xs.map (D.int q))) = true := closedL_mi
theorem closed_ab {xs : List Bool} : D.closed (.agg (xs.map D.bool)) = true := closedL_mb
theorem Wr.sh {w : Nat → List D → D} (hw : Wr w) (k : Nat) : Wr (fun n => w (k + n)) := ⟨fun n xs => hw.copy _ xs, fun n xs => hw.one _ xs⟩
theorem len_arr {α : Type} {n : Nat} {f : α → D} {a : Arr α n} : (a.l.map f).length = n := by rw [List.length_map, a.h]
/-! Slices whose elements are written: objects. -/
def flat {α : Type} (f : α → D) (xs : List α) : List D := xs.flatMap fun x => (f x).cells
structure EF {α : Type} (f : α → D) (sz : Nat) : Prop where
  len : ∀ x, (f x).cells.length = sz
  copy : ∀ x, (f x).cells.map D.copy = (f x).cells
  one : ∀ x, (f x).cells.all D.one = true
  elem : ∀ x, D.elem sz (f x) = true
  form : (sz = 1 ∧ ∀ x, (f x).cells = [f x]) ∨ (sz ≠ 1 ∧ ∀ x, f x = .agg (f x).cells)
theorem ef_int {q : IntKind} : EF (D.int q) 1 := ⟨fun _ => rfl, fun _ => rfl, fun _ => rfl, fun _ => rfl, .inl ⟨rfl, fun _ => rfl⟩⟩
theorem ef_bool : EF D.bool 1 := ⟨fun _ => rfl, fun _ => rfl, fun _ => rfl, fun _ => rfl, .inl ⟨rfl, fun _ => rfl⟩⟩
theorem ef_str : EF D.str 1 := ⟨fun _ => rfl, fun _ => rfl, fun _ => rfl, fun _ => rfl, .inl ⟨rfl, fun _ => rfl⟩⟩
theorem ef_list {α : Type} {f : α → D} : EF (encL f) 1 := ⟨fun _ => rfl, fun _ => rfl, fun _ => rfl, fun _ => rfl, .inl ⟨rfl, fun _ => rfl⟩⟩
theorem flat_len {α : Type} {f : α → D} {sz : Nat} (ef : EF f sz) (xs : List α) : (flat f xs).length = xs.length * sz := by
  induction xs with
  | nil => simp [flat]
  | cons x xs ih =>
    show ((f x).cells ++ flat f xs).length = _
    rw [List.length_append, ih, ef.len, List.length_cons, Nat.succ_mul, Nat.add_comm]
theorem flat_append {α : Type} {f : α → D} (xs ys : List α) : flat f (xs ++ ys) = flat f xs ++ flat f ys := by simp [flat]
theorem flat_split {α : Type} {f : α → D} {xs : List α} {j : Nat} {y : α} (h : xs[j]? = some y) : flat f xs = flat f (xs.take j) ++ ((f y).cells ++ flat f (xs.drop (j + 1))) := by
  have hj : j < xs.length := (List.getElem?_eq_some_iff.1 h).1
  rw [List.getElem?_eq_getElem hj] at h
  injection h with h
  conv => lhs; rw [← List.take_append_drop j xs, List.drop_eq_getElem_cons hj, h]
  rw [flat_append]; rfl
theorem flat_take_len {α : Type} {f : α → D} {sz : Nat} (ef : EF f sz) {xs : List α} {j : Nat} {y : α} (h : xs[j]? = some y) : (flat f (xs.take j)).length = j * sz := by
  have hj : j < xs.length := (List.getElem?_eq_some_iff.1 h).1
  rw [flat_len ef, List.length_take, Nat.min_eq_left (by omega)]
theorem cut_flat {α : Type} {f : α → D} {sz : Nat} (ef : EF f sz) {xs : List α} {j : Int} {y : α} {off n : Nat} {cs ds : List D} (h : at_ xs j = some y) (hcs : (f y).cells = cs) (hc : cut cs off n = some ds) : cut (flat f xs) (0 + j.toNat * sz + off) n = some ds := by
  obtain ⟨_, h⟩ := at_some h
  rw [flat_split h, Nat.zero_add]
  exact (cut_r (flat_take_len ef h)).trans (cut_in (by rw [hcs]; exact hc))
theorem cut_flat0 {α : Type} {f : α → D} {sz : Nat} (ef : EF f sz) {xs : List α} {j : Int} {y : α} {n : Nat} {cs ds : List D} (h : at_ xs j = some y) (hcs : (f y).cells = cs) (hc : cut cs 0 n = some ds) : cut (flat f xs) (0 + j.toNat * sz) n = some ds := cut_flat ef h hcs hc
theorem flat_set {α : Type} {f : α → D} {xs : List α} {j : Nat} {y v : α} (h : xs[j]? = some y) : flat f (xs.set j v) = flat f (xs.take j) ++ ((f v).cells ++ flat f (xs.drop (j + 1))) := by
  have hj : j < xs.length := (List.getElem?_eq_some_iff.1 h).1
  rw [List.set_eq_take_append_cons_drop, if_pos hj, flat_append]; rfl
theorem splice_flat {α : Type} {f : α → D} {sz : Nat} (ef : EF f sz) {xs : List α} {j : Int} {y v : α} {off : Nat} {cs cs' ds : List D} (h : at_ xs j = some y) (hcs : (f y).cells = cs) (hv : (f v).cells = cs') (hs : splice cs off ds = some cs') : splice (flat f xs) (0 + j.toNat * sz + off) ds = some (flat f (xs.set j.toNat v)) := by
  obtain ⟨_, h⟩ := at_some h
  rw [flat_split h, flat_set h, Nat.zero_add]
  exact splice_r (flat_take_len ef h) (splice_in (by rw [hcs, hv]; exact hs))
theorem splice_flat0 {α : Type} {f : α → D} {sz : Nat} (ef : EF f sz) {xs : List α} {j : Int} {y v : α} {cs cs' ds : List D} (h : at_ xs j = some y) (hcs : (f y).cells = cs) (hv : (f v).cells = cs') (hs : splice cs 0 ds = some cs') : splice (flat f xs) (0 + j.toNat * sz) ds = some (flat f (xs.set j.toNat v)) := splice_flat ef h hcs hv hs
theorem at_lt {α : Type} {xs : List α} {j : Int} {y : α} {n : Nat} (h : at_ xs j = some y) (hl : xs.length = n) : 0 ≤ j ∧ j < (n : Int) := by
  obtain ⟨h0, h⟩ := at_some h
  have := (List.getElem?_eq_some_iff.1 h).1
  omega
theorem chunksF {α : Type} {f : α → D} {sz : Nat} (ef : EF f sz) (hf : ∀ x, f x = .agg (f x).cells) : ∀ xs : List α, chunks sz xs.length (flat f xs) = xs.map f
  | [] => rfl
  | x :: xs => by
    show D.agg (((f x).cells ++ flat f xs).take sz) :: chunks sz xs.length (((f x).cells ++ flat f xs).drop sz) = _
    rw [List.take_append_of_le_length (by rw [ef.len]; exact Nat.le_refl _), List.take_of_length_le (by rw [ef.len]; exact Nat.le_refl _), List.drop_append_of_le_length (by rw [ef.len]; exact Nat.le_refl _), List.drop_of_length_le (by rw [ef.len]; exact Nat.le_refl _), List.nil_append, chunksF ef hf xs, ← hf x]
    rfl
theorem flat_copy {α : Type} {f : α → D} {sz : Nat} (ef : EF f sz) (xs : List α) : (flat f xs).map D.copy = flat f xs := by
  induction xs with
  | nil => rfl
  | cons x xs ih =>
    show ((f x).cells ++ flat f xs).map D.copy = _
    rw [List.map_append, ef.copy, ih]; rfl
theorem elems_flat {α : Type} {f : α → D} {sz : Nat} (ef : EF f sz) {e : Nat → Slot} {H : List (Option (List D))} {b len : Nat} {xs : List α} (ho : objH H b = some (flat f xs)) (hl : xs.length = len) : St.elems ⟨e, H⟩ sz (.ref b 0 len sz) = some (xs.map f) := by
  have ho' : St.obj ⟨e, H⟩ b = some (flat f xs) := ho
  have hc : cut (flat f xs) 0 (len * sz) = some (flat f xs) := cut_all (by rw [flat_len ef, hl])
  subst hl
  simp only [St.elems, if_true, ho', hc]
  rcases ef.form with ⟨h1, h2⟩ | ⟨h1, h2⟩
  · rw [if_pos h1, flat_copy ef]
    have : flat f xs = xs.map f := by
      clear ho ho' hc
      induction xs with
      | nil => rfl
      | cons x xs ih =>
        show (f x).cells ++ flat f xs = _
        rw [ih, h2]; rfl
    rw [this]
  · rw [if_neg h1, flat_copy ef, chunksF ef h2]
section
variable {C : Con} {is : List AI} {Q : St → Prop} {e : Nat → Slot} {H : List (Option (List D))} {m n : Nat} {α : Type} {f : α → D} {sz : Nat}
theorem o_mksh (ef : EF f sz) {x : α} {z : D} {bytes : Nat} {a : AO} {j : Int} (ha : St.val ⟨e, H⟩ a = some (.int .i64 j)) (hz : z = f x) (hj : 0 ≤ j ∧ j * bytes ≤ 140737488351232 ∧ j ≤ 140737488351232) (k : ∀ b H', objH H' b = some (flat f (List.replicate j.toNat x)) → (∀ b' cs', objH H b' = some cs' → objH H' b' = some cs' ∧ b' ≠ b) → wpo C is Q ⟨upd e m (.d (.ref b 0 j.toNat sz)), H'⟩) : wpo C ({ dst := some m, op := .mksH z bytes a } :: is) Q ⟨e, H⟩ := by
  subst hz
  have hfl : (List.replicate j.toNat (f x).cells).flatten = flat f (List.replicate j.toNat x) := by
    unfold flat
    generalize j.toNat = n
    induction n with
    | zero => rfl
    | succ n ih => rw [List.replicate_succ, List.replicate_succ, List.flatten_cons, ih, List.flatMap_cons]
  refine o_plain (by simp only [stepF, ha]; rw [if_pos hj, ef.len, hfl]; rfl) rfl (k _ _ obj_last fun b' cs' h => ⟨obj_app h, fun hb => by subst hb; simp [objH, St.obj] at h⟩)
theorem o_bslh (ef : EF f sz) {xs : List α} {parts : List AO} {ds : List D} (hv : St.vals ⟨e, H⟩ parts = some ds) (hd : ds = xs.map f) (k : ∀ b H', objH H' b = some (flat f xs) → (∀ b' cs', objH H b' = some cs' → objH H' b' = some cs' ∧ b' ≠ b) → wpo C is Q ⟨upd e m (.d (.ref b 0 xs.length sz)), H'⟩) : wpo C ({ dst := some m, op := .bslH sz parts } :: is) Q ⟨e, H⟩ := by
  subst hd
  have h1 : ((xs.map f).all fun d => d.cells.length == sz && d.cells.all D.one) = true := by simp [ef.len, ef.one]
  have hfl : (xs.map f).flatMap D.cells = flat f xs := by unfold flat; rw [List.flatMap_map]
  refine o_plain (by simp only [stepF, hv]; rw [if_pos h1, hfl, List.length_map]; rfl) rfl (k _ _ obj_last fun b' cs' h => ⟨obj_app h, fun hb => by subst hb; simp [objH, St.obj] at h⟩)
theorem o_iasr {a i : AO} {b len : Nat} {q : IntKind} {j : Int} (ha : St.val ⟨e, H⟩ a = some (.ref b 0 len sz)) (hi : St.val ⟨e, H⟩ i = some (.int q j)) (h0 : 0 ≤ j ∧ j < (len : Int)) (k : wpo C is Q ⟨upd e m (.d (.ptr b (0 + j.toNat * sz))), H⟩) : wpo C ({ dst := some m, op := .ias sz a i } :: is) Q ⟨e, H⟩ :=
  o_plain (by simp only [stepF, ha, hi]; rw [if_pos ⟨h0.1, h0.2, trivial⟩]; rfl) rfl k
theorem o_lenr {a : AO} {b len : Nat} (ha : St.val ⟨e, H⟩ a = some (.ref b 0 len sz)) (k : len ≤ 140737488351232 → wpo C is Q ⟨upd e m (.d (.int .i64 (len : Int))), H⟩) : wpo C ({ dst := some m, op := .len false a } :: is) Q ⟨e, H⟩ := o_len ha rfl k
theorem frz1 (ef : EF f sz) {b len : Nat} {xs : List α} (hn : e n = .d (.ref b 0 len sz)) (ho : objH H b = some (flat f xs)) (hl : xs.length = len) : St.freeze ⟨e, H⟩ [(n, sz)] = some ⟨upd e n (.d (.list (xs.map f))), H.set b none⟩ := by
  have h1 : (xs.map f).all (D.elem sz) = true := by simp [ef.elem]
  simp only [St.freeze, hn, if_true, elems_flat ef ho hl, h1]
theorem o_frz1 {d : Option Nat} {op : AOp} (ef : EF f sz) {b len : Nat} {xs : List α} (hn : e n = .d (.ref b 0 len sz)) (ho : objH H b = some (flat f xs)) (hl : xs.length = len) (k : ∀ H', (∀ b' c, b' ≠ b → objH H b' = some c → objH H' b' = some c) → wpo C ({ dst := d, op := op } :: is) Q ⟨upd e n (.d (.list (xs.map f))), H'⟩) : wpo C ({ dst := d, frz := [(n, sz)], op := op } :: is) Q ⟨e, H⟩ :=
  o_frz (frz1 ef hn ho hl) (k _ fun b' c hb h => obj_set' (fun h => hb h.symm) h)
end
end Go.Am
