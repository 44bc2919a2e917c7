/- Functions over typed data, and that the program comes to their answers: printed by a program of this session. -/
import Derived.Test.YtgdjgoehofopnaaDoorSsF3
set_option linter.unusedSimpArgs false
set_option linter.unusedVariables false
set_option maxRecDepth 10000
namespace Go.Am
open Go
def a9_r0 : List AI := [
  { dst := some 1, op := .box (.t 0) },
  { dst := some 2, op := .alloc ([.int .i64 0, .str []] ++ List.replicate 256 (.bool false) ++ [.list []]) }]
def a9_r1 : List AI := [
  { dst := some 5, nl := [(1, 3)], op := .fa 1 0 },
  { dst := some 6, nl := [(1, 3), (5, 3)], op := .ldv none 5 1 0 },
  { dst := some 7, nl := [(1, 3)], op := .fa 1 1 },
  { dst := some 8, nl := [(1, 3), (7, 3)], op := .ldv none 7 1 1 },
  { dst := some 9, nl := [(1, 3)], op := .fa 1 2 },
  { dst := some 10, nl := [(1, 3), (9, 3)], op := .ldv (some 4) 9 1 2 },
  { dst := some 11, nl := [(10, 3)], op := .callQ 33 [(.t 10)] },
  { dst := some 12, nl := [(6, 3), (8, 3), (11, 3)], op := .build ([.int .i64 0, .str []] ++ List.replicate 256 (.bool false) ++ [.own 35 []]) [(0, 1, (.t 6)), (1, 1, (.t 8)), (2, 256, (.t 11))] },
  { dst := some 3, op := .alloc ([.int .i64 0, .str []] ++ List.replicate 256 (.bool false) ++ [.own 35 []]) },
  { dst := none, op := .stv 259 3 3 0 (.t 12) }]
def a9_r2 : List AI := [
  { dst := some 4, op := .mv (.k (.int .i64 0)) }]
def a9_r3 : List AI := [
  { dst := some 13, op := .mv (.t 4) },
  { dst := some 14, op := .fa 1 6 },
  { dst := some 15, op := .ld none 14 },
  { dst := some 16, op := .len false (.t 15) },
  { dst := some 17, op := .bin .lss (.t 13) (.t 16) }]
def a9_k1 : AC := (.cond (.t 17) .skip (.exit 0))
def a9_r5 : List AI := [
  { dst := some 20, op := .fa 3 258 },
  { dst := some 21, op := .ldr 20 3 258 },
  { dst := some 22, op := .fa 1 6 },
  { dst := some 23, op := .ldv none 22 1 6 },
  { dst := some 24, op := .mv (.t 4) },
  { dst := some 25, op := .ias 7 (.t 23) (.t 24) },
  { dst := some 26, op := .ldi (some 7) 25 },
  { dst := some 27, op := .callQ 9 [(.t 26)] },
  { dst := some 28, op := .bsl 35 259 [(.t 27)] },
  { dst := some 29, op := .app 35 259 304 21 (.t 28) },
  { dst := some 30, op := .fa 3 258 },
  { dst := none, op := .st 1 30 (.x 29) }]
def a9_r4 : List AI := [
  { dst := some 18, op := .mv (.t 4) },
  { dst := some 19, op := .bin .add (.t 18) (.k (.int .i64 1)) },
  { dst := some 4, op := .mv (.t 19) }]
def a9_k2 : AC := (.seq (.block 1 (.reg a9_r5)) (.reg a9_r4))
def a9_L1 : AC := (.seq (.seq (.reg a9_r3) a9_k1) a9_k2)
def a9_k3 : AC := (.block 0 (.loop a9_L1))
def a9_r6 : List AI := [
  { dst := some 31, op := .ld (some 259) 3 },
  { dst := none, op := .st 259 2 (.t 31) }]
def a9_k4 : AC := (.seq (.reg a9_r6) .ret)
def a9_k5 : AC := (.seq (.seq (.reg a9_r2) a9_k3) a9_k4)
def a9_k6 : AC := (.seq (.reg a9_r1) a9_k5)
def a9_B : AC := (.seq (.reg a9_r0) a9_k6)
/-- catchpole/catchpolelaw18.codedOf -/
def a9 : AF := { N := 32, V := [1, 2, 3], body := a9_B, res := [.c (some 259) 2] }
theorem c9 : chkF P a9 Go.Proofs.Tryd.f9 = true := by kernel_rfl
mutual
/-- catchpole/catchpolelaw18.codedOf -/
def law18_codedOf (k : Nat) (x0 : T_coded_Coded) : Option T_ref17_Coded := match k with
  | 0 => none
  | k + 1 =>
    (law18_own k x0.Set).bind fun y11 =>
    law18_codedOf_L1 k x0 (T_ref17_Coded.mk 0 [] (Arr.rep 256 false) []) (T_ref17_Coded.mk x0.Kind x0.Bits y11 []) 0
def law18_codedOf_L1 (k : Nat) (v1 : T_coded_Coded) (v2 : T_ref17_Coded) (v3 : T_ref17_Coded) (t4 : Int) : Option T_ref17_Coded := match k with
  | 0 => none
  | k + 1 =>
    if (decide (t4 < (v1.L.length : Int))) = true then ((at_ v1.L t4).bind fun y25 =>
    (law18_codedOf k y25).bind fun y27 =>
    need ((v3.L.length + ([y27]).length) * 304 ≤ 140737488351232 ∧ v3.L.length + ([y27]).length ≤ 140737488351232) <|
    law18_codedOf_L1 k v1 v2 (T_ref17_Coded.mk v3.Kind v3.Bits v3.Set (v3.L ++ ([y27]))) (IntKind.i64.wrap (t4 + 1)))
    else some v3
end
def a9_q1 (R : Ex → St → Prop) : Ex → St → Prop := Ex.then (wpc (Ev P) a9_k4 R) R
def a9_q2 (R : Ex → St → Prop) : Ex → St → Prop := Ex.inBlock 0 (a9_q1 R)
def S_law18_codedOf (k : Nat) : Prop := ∀ (x0 : T_coded_Coded) (r : T_ref17_Coded), law18_codedOf k x0 = some r → ∀ H, Ev P 9 [(.agg (T_coded_Coded.cells lw x0))] H (.agg (T_ref17_Coded.cells lw r)) H
def S_law18_codedOf_L1 (k : Nat) : Prop := ∀ (v1 : T_coded_Coded) (v2 : T_ref17_Coded) (v3 : T_ref17_Coded) (t4 : Int) (r : T_ref17_Coded) (ρ : Nat → Slot) (H : List (Option (List D))) , law18_codedOf_L1 k v1 v2 v3 t4 = some r → wpc (Ev P) (.loop a9_L1) (a9_q2 (retN a9.res (.agg (T_ref17_Coded.cells lw r)))) ⟨upds ρ [(1, .var (T_coded_Coded.cells lw v1)), (2, .var (T_ref17_Coded.cells lw v2)), (3, .var (T_ref17_Coded.cells (ow 258 35) v3)), (4, .d (.int .i64 t4))], H⟩
structure C_law18_codedOf (k : Nat) : Prop where
  law18_codedOf : S_law18_codedOf k
  law18_codedOf_L1 : S_law18_codedOf_L1 k
theorem t_law18_codedOf (k : Nat) (ih : C_law18_codedOf k) : S_law18_codedOf (k + 1) := by
  intro x0 r h H0
  rw [law18_codedOf] at h
  refine evc_intro a9 Go.Proofs.Tryd.func9 c9 (Nat.le_of_ble_eq_true rfl) (cl_cons (T_coded_Coded.closed _) cl_nil) (T_ref17_Coded.closed _) ?_ H0
  generalize ([] : List (Option (List D))) = H
  show wpc (Ev P) a9_B (retN a9.res (.agg (T_ref17_Coded.cells lw r))) _
  refine c_seq ?_
  refine c_reg ?_
  refine o_box (vt rfl (copy_of_agg _)) (T_coded_Coded.one wr_l _) (T_coded_Coded.copy wr_l _) ?_
  refine o_alloc (cs := T_ref17_Coded.cells lw (T_ref17_Coded.mk 0 [] (Arr.rep 256 false) [])) (by simp [T_ref17_Coded.cells, Arr.rep, lw, ow]) ?_
  refine o_nil ?_
  refine k_then ?_
  refine c_seq ?_
  refine c_reg ?_
  refine o_nl rfl ?_
  refine o_fa (lv_v rfl) ?_
  refine o_nl rfl ?_
  refine o_ldv1 (lv_l rfl) rfl (T_coded_Coded.cut_Kind lw _) (copy_of_int _ _) ?_
  refine o_nl rfl ?_
  refine o_fa (lv_v rfl) ?_
  refine o_nl rfl ?_
  refine o_ldv1 (lv_l rfl) rfl (T_coded_Coded.cut_Bits lw _) (copy_of_str _) ?_
  refine o_nl rfl ?_
  refine o_fa (lv_v rfl) ?_
  refine o_nl rfl ?_
  refine o_ldv (lv_l rfl) rfl (T_coded_Coded.cut_Set lw _) cm_int ?_
  refine o_nl rfl ?_
  obtain ⟨y11, hy11, h⟩ := bind_some h
  refine o_callq (g_cons (gt_ rfl (copy_of_agg _)) g_nil) (s_law18_own k _ _ hy11 _) ?_
  refine o_nl rfl ?_
  refine o_build (fill_z (z' := T_ref17_Coded.cells (ow 258 35) (T_ref17_Coded.mk 0 [] (Arr.rep 256 false) [])) (by simp [T_ref17_Coded.cells, Arr.rep, lw, ow]) (fill_cons (vt rfl (copy_of_int _ _)) rfl rfl cc_int (T_ref17_Coded.spl_Kind _ x0.Kind) (fill_cons (vt rfl (copy_of_str _)) rfl rfl cc_str (T_ref17_Coded.spl_Bits _ x0.Bits) (fill_cons (vt rfl (copy_of_agg _)) len_arr om_bool cm_bool (T_ref17_Coded.spl_Set _ y11) fill_nil)))) ?_
  refine o_alloc (cs := T_ref17_Coded.cells (ow 258 35) (T_ref17_Coded.mk 0 [] (Arr.rep 256 false) [])) (by simp [T_ref17_Coded.cells, Arr.rep, lw, ow]) ?_
  refine o_stv (lv_v rfl) (gt_ rfl (copy_of_agg _)) (cells_of_agg _) (T_ref17_Coded.len _ _) (T_ref17_Coded.one (wr_o 258 35) _) rfl (splice_all (n := 259) (T_ref17_Coded.len _ _) (T_ref17_Coded.len _ _)) ?_
  refine o_nil ?_
  refine k_then ?_
  refine c_seq ?_
  refine c_seq ?_
  refine c_reg ?_
  refine o_mvk ?_
  refine o_nil ?_
  refine k_then ?_
  refine c_block ?_
  exact wpc_head (ih.law18_codedOf_L1 _ _ _ _ _ _ _ h) ⟨rfl, rfl, rfl, rfl, trivial⟩
theorem t_law18_codedOf_L1 (k : Nat) (ih : C_law18_codedOf k) : S_law18_codedOf_L1 (k + 1) := by
  intro v1 v2 v3 t4 r ρ H h
  rw [law18_codedOf_L1] at h
  refine wpc_loop_i ?_
  refine c_seq ?_
  refine c_seq ?_
  refine c_reg ?_
  refine o_mvt rfl (copy_of_int _ _) ?_
  refine o_fa (lv_v rfl) ?_
  refine o_ld1 (lv_l rfl) rfl (T_coded_Coded.cut_L lw _) (Wr.copy wr_l _ _) ?_
  refine o_len_l (vt rfl (copy_of_list _)) (fun _ => ?_)
  refine o_bin (vt rfl (copy_of_int _ _)) (vt rfl (copy_of_int _ _)) bin_lss ?_
  refine o_nil ?_
  refine k_then ?_
  by_cases c1 : (decide (t4 < (v1.L.length : Int))) = true
  · have h := it_t h c1
    refine c_cond_t (vt rfl (copy_of_bool _)) c1 ?_
    refine c_skip ?_
    refine k_then ?_
    refine c_seq ?_
    refine c_block ?_
    refine c_reg ?_
    refine o_fa (lv_v rfl) ?_
    refine o_ldr (lv_l rfl) rfl (T_ref17_Coded.cut_L (ow 258 35) _) (T_ref17_Coded.spl_L (w' := lw) _ v3.L) ?_
    refine o_fa (lv_v rfl) ?_
    refine o_ldv1 (lv_l rfl) rfl (T_coded_Coded.cut_L lw _) (Wr.copy wr_l _ _) ?_
    refine o_mvt rfl (copy_of_int _ _) ?_
    obtain ⟨y25, hy25, h⟩ := bind_some h
    refine o_ias (vt rfl (copy_of_list _)) (vt rfl (copy_of_int _ _)) hy25 (T_coded_Coded.enc_cells _) (T_coded_Coded.len lw _) ?_
    refine o_ldI rfl (cut_all (T_coded_Coded.len _ _)) (T_coded_Coded.copy wr_l _) ?_
    obtain ⟨y27, hy27, h⟩ := bind_some h
    refine o_callq (g_cons (gt_ rfl (copy_of_agg _)) g_nil) (ih.law18_codedOf _ _ hy27 _) ?_
    refine o_bsl (f := T_ref17_Coded.enc) (v_cons (vt rfl (copy_of_agg _)) v_nil) (l_cons (T_ref17_Coded.enc_eq _).symm l_nil) T_ref17_Coded.elem ?_
    obtain ⟨c2, h⟩ := need_some h
    refine o_app (f := T_ref17_Coded.enc) (xs := v3.L) (ys := ([y27])) T_ref17_Coded.elem rfl (vt rfl (copy_of_own _ _)) c2 ?_
    refine o_fa (lv_v rfl) ?_
    refine o_stx (lv_l rfl) rfl rfl (T_ref17_Coded.spl_L (w' := (ow 258 35)) _ (v3.L ++ ([y27]))) ?_
    refine o_nil ?_
    refine k_block _ ?_
    refine k_then ?_
    refine c_reg ?_
    refine o_mvt rfl (copy_of_int _ _) ?_
    refine o_bin (vt rfl (copy_of_int _ _)) (vk (copy_of_int _ _)) bin_add ?_
    refine o_mvt rfl (copy_of_int _ _) ?_
    refine o_nil ?_
    refine k_then ?_
    exact wpc_head (ih.law18_codedOf_L1 _ _ _ _ _ _ _ h) ⟨rfl, rfl, rfl, rfl, trivial⟩
  · have c1 := bf c1
    have h := it_f h c1
    refine c_cond_f (vt rfl (copy_of_bool _)) c1 ?_
    refine c_exit ?_
    refine k_then_exit ?_
    refine k_then_exit ?_
    refine k_block_exit _ ?_
    refine k_then ?_
    refine c_seq ?_
    refine c_reg ?_
    refine o_ld (lv_v rfl) rfl (cut_all (T_ref17_Coded.len _ _)) (T_ref17_Coded.copy (wr_o 258 35) _) ?_
    refine o_st rfl (lv_v rfl) (gt_ rfl (copy_of_agg _)) (cells_of_agg _) (T_ref17_Coded.len _ _) (T_ref17_Coded.one wr_l _) rfl (splice_all (n := 259) (T_ref17_Coded.len _ _) (T_ref17_Coded.len _ _)) ?_
    refine o_nil ?_
    refine k_then ?_
    refine c_ret ?_
    obtain rfl := Option.some.inj h
    exact r_one rfl (res_c rfl (cut_all (T_ref17_Coded.len _ _)) (T_ref17_Coded.copy wr_l _)) (.inl rfl)
theorem z_law18_codedOf : S_law18_codedOf 0 := by
  intro x0 r h H
  rw [law18_codedOf] at h; cases h
theorem z_law18_codedOf_L1 : S_law18_codedOf_L1 0 := by
  intro v1 v2 v3 t4 r ρ H h
  rw [law18_codedOf_L1] at h; cases h
theorem C_law18_codedOf.all : ∀ k, C_law18_codedOf k
  | 0 => ⟨z_law18_codedOf, z_law18_codedOf_L1⟩
  | k + 1 => ⟨t_law18_codedOf k (C_law18_codedOf.all k), t_law18_codedOf_L1 k (C_law18_codedOf.all k)⟩
theorem s_law18_codedOf (k : Nat) : S_law18_codedOf k := (C_law18_codedOf.all k).law18_codedOf
def a35_r0 : List AI := [
  { dst := some 3, op := .box (.t 1) },
  { dst := some 4, op := .alloc ([.int .i64 0, .str []] ++ List.replicate 256 (.bool false) ++ [.list []]) }]
def a35_r1 : List AI := [
  { dst := some 5, op := .fa 3 0 },
  { dst := some 6, op := .ld none 5 },
  { dst := some 7, op := .bin .neq (.t 6) (.k (.int .i64 0)) }]
def a35_r2 : List AI := [
  { dst := some 8, op := .mv (.t 0) },
  { dst := some 9, op := .fa 3 1 },
  { dst := some 10, op := .ld none 9 },
  { dst := some 11, op := .bin .add (.t 8) (.t 10) },
  { dst := some 12, op := .fa 3 1 },
  { dst := none, op := .st 1 12 (.t 11) }]
def a35_k1 : AC := (.cond (.t 7) (.reg a35_r2) .skip)
def a35_r3 : List AI := [
  { dst := some 13, op := .ld (some 259) 3 },
  { dst := none, op := .st 259 4 (.t 13) }]
def a35_k2 : AC := (.seq (.reg a35_r3) .ret)
def a35_k3 : AC := (.seq (.seq (.reg a35_r1) a35_k1) a35_k2)
def a35_B : AC := (.seq (.reg a35_r0) a35_k3)
/-- catchpole/catchpoleref17.Fuse -/
def a35 : AF := { N := 14, V := [3, 4], body := a35_B, res := [.c (some 259) 4] }
theorem c35 : chkF P a35 Go.Proofs.Tryd.f35 = true := by kernel_rfl
/-- catchpole/catchpoleref17.Fuse -/
def ref17_Fuse (k : Nat) (x0 : (List UInt8)) (x1 : T_ref17_Coded) : Option T_ref17_Coded := match k with
  | 0 => none
  | k + 1 =>
    if (x1.Kind != 0) = true then (need (x0.length + x1.Bits.length ≤ 140737488351232) <|
    some (T_ref17_Coded.mk x1.Kind (x0 ++ x1.Bits) x1.Set x1.L))
    else some x1
def S_ref17_Fuse (k : Nat) : Prop := ∀ (x0 : (List UInt8)) (x1 : T_ref17_Coded) (r : T_ref17_Coded), ref17_Fuse k x0 x1 = some r → ∀ H, Ev P 35 [(.str x0), (.agg (T_ref17_Coded.cells lw x1))] H (.agg (T_ref17_Coded.cells lw r)) H
structure C_ref17_Fuse (k : Nat) : Prop where
  ref17_Fuse : S_ref17_Fuse k
theorem t_ref17_Fuse (k : Nat) (ih : C_ref17_Fuse k) : S_ref17_Fuse (k + 1) := by
  intro x0 x1 r h H0
  rw [ref17_Fuse] at h
  refine evc_intro a35 Go.Proofs.Tryd.func35 c35 (Nat.le_of_ble_eq_true rfl) (cl_cons rfl (cl_cons (T_ref17_Coded.closed _) cl_nil)) (T_ref17_Coded.closed _) ?_ H0
  generalize ([] : List (Option (List D))) = H
  show wpc (Ev P) a35_B (retN a35.res (.agg (T_ref17_Coded.cells lw r))) _
  refine c_seq ?_
  refine c_reg ?_
  refine o_box (vt rfl (copy_of_agg _)) (T_ref17_Coded.one wr_l _) (T_ref17_Coded.copy wr_l _) ?_
  refine o_alloc (cs := T_ref17_Coded.cells lw (T_ref17_Coded.mk 0 [] (Arr.rep 256 false) [])) (by simp [T_ref17_Coded.cells, Arr.rep, lw, ow]) ?_
  refine o_nil ?_
  refine k_then ?_
  refine c_seq ?_
  refine c_seq ?_
  refine c_reg ?_
  refine o_fa (lv_v rfl) ?_
  refine o_ld1 (lv_l rfl) rfl (T_ref17_Coded.cut_Kind lw _) (copy_of_int _ _) ?_
  refine o_bin (vt rfl (copy_of_int _ _)) (vk (copy_of_int _ _)) bin_neq ?_
  refine o_nil ?_
  refine k_then ?_
  by_cases c1 : (x1.Kind != 0) = true
  · have h := it_t h c1
    refine c_cond_t (vt rfl (copy_of_bool _)) c1 ?_
    refine c_reg ?_
    refine o_mvt rfl (copy_of_str _) ?_
    refine o_fa (lv_v rfl) ?_
    refine o_ld1 (lv_l rfl) rfl (T_ref17_Coded.cut_Bits lw _) (copy_of_str _) ?_
    obtain ⟨c2, h⟩ := need_some h
    refine o_bin (vt rfl (copy_of_str _)) (vt rfl (copy_of_str _)) (bin_str c2) ?_
    refine o_fa (lv_v rfl) ?_
    refine o_st rfl (lv_l rfl) (gt_ rfl (copy_of_str _)) (cells_of_str _) rfl rfl rfl (T_ref17_Coded.spl_Bits _ (x0 ++ x1.Bits)) ?_
    refine o_nil ?_
    refine k_then ?_
    refine c_seq ?_
    refine c_reg ?_
    refine o_ld (lv_v rfl) rfl (cut_all (T_ref17_Coded.len _ _)) (T_ref17_Coded.copy wr_l _) ?_
    refine o_st rfl (lv_v rfl) (gt_ rfl (copy_of_agg _)) (cells_of_agg _) (T_ref17_Coded.len _ _) (T_ref17_Coded.one wr_l _) rfl (splice_all (n := 259) (T_ref17_Coded.len _ _) (T_ref17_Coded.len _ _)) ?_
    refine o_nil ?_
    refine k_then ?_
    refine c_ret ?_
    obtain rfl := Option.some.inj h
    exact r_one rfl (res_c rfl (cut_all (T_ref17_Coded.len _ _)) (T_ref17_Coded.copy wr_l _)) (.inl rfl)
  · have c1 := bf c1
    have h := it_f h c1
    refine c_cond_f (vt rfl (copy_of_bool _)) c1 ?_
    refine c_skip ?_
    refine k_then ?_
    refine c_seq ?_
    refine c_reg ?_
    refine o_ld (lv_v rfl) rfl (cut_all (T_ref17_Coded.len _ _)) (T_ref17_Coded.copy wr_l _) ?_
    refine o_st rfl (lv_v rfl) (gt_ rfl (copy_of_agg _)) (cells_of_agg _) (T_ref17_Coded.len _ _) (T_ref17_Coded.one wr_l _) rfl (splice_all (n := 259) (T_ref17_Coded.len _ _) (T_ref17_Coded.len _ _)) ?_
    refine o_nil ?_
    refine k_then ?_
    refine c_ret ?_
    obtain rfl := Option.some.inj h
    exact r_one rfl (res_c rfl (cut_all (T_ref17_Coded.len _ _)) (T_ref17_Coded.copy wr_l _)) (.inl rfl)
theorem z_ref17_Fuse : S_ref17_Fuse 0 := by
  intro x0 x1 r h H
  rw [ref17_Fuse] at h; cases h
theorem C_ref17_Fuse.all : ∀ k, C_ref17_Fuse k
  | 0 => ⟨z_ref17_Fuse⟩
  | k + 1 => ⟨t_ref17_Fuse k (C_ref17_Fuse.all k)⟩
theorem s_ref17_Fuse (k : Nat) : S_ref17_Fuse k := (C_ref17_Fuse.all k).ref17_Fuse
def a11_r0 : List AI := [
  { dst := some 2, op := .mv (.k (.list [])) }]
def a11_r1 : List AI := [
  { dst := some 3, op := .mv (.k (.own 35 [])) }]
def a11_r2 : List AI := [
  { dst := some 4, op := .mv (.k (.int .i64 0)) }]
def a11_r3 : List AI := [
  { dst := some 6, op := .mv (.t 4) },
  { dst := some 7, op := .mv (.t 0) },
  { dst := some 8, op := .len false (.t 7) },
  { dst := some 9, op := .bin .lss (.t 6) (.t 8) }]
def a11_k1 : AC := (.cond (.t 9) .skip (.exit 0))
def a11_r5 : List AI := [
  { dst := some 12, op := .mv (.t 0) },
  { dst := some 13, op := .mv (.t 4) },
  { dst := some 14, op := .ias 259 (.t 12) (.t 13) },
  { dst := some 15, op := .fa 14 0 },
  { dst := some 16, op := .ld none 15 }]
def a11_r7 : List AI := [
  { dst := some 25, op := .bin .eql (.t 16) (.k (.int .i64 0)) },
  { dst := some 24, op := .mv (.t 25) }]
def a11_r8 : List AI := [
  { dst := some 27, op := .bin .eql (.t 16) (.k (.int .i64 4)) },
  { dst := some 26, op := .mv (.t 27) }]
def a11_r9 : List AI := [
  { dst := some 5, op := .mv (.k (.int .i64 0)) }]
def a11_r10 : List AI := [
  { dst := some 28, op := .mv (.t 5) },
  { dst := some 29, op := .mv (.t 0) },
  { dst := some 30, op := .mv (.t 4) },
  { dst := some 31, op := .ias 259 (.t 29) (.t 30) },
  { dst := some 32, op := .fa 31 258 },
  { dst := some 33, op := .ld none 32 },
  { dst := some 34, op := .len false (.t 33) },
  { dst := some 35, op := .bin .lss (.t 28) (.t 34) }]
def a11_k2 : AC := (.cond (.t 35) .skip (.exit 3))
def a11_r12 : List AI := [
  { dst := some 38, op := .mv (.x 3) },
  { dst := some 39, op := .mv (.t 0) },
  { dst := some 40, op := .mv (.t 4) },
  { dst := some 41, op := .ias 259 (.t 39) (.t 40) },
  { dst := some 42, op := .fa 41 1 },
  { dst := some 43, op := .ldi none 42 },
  { dst := some 44, op := .mv (.t 0) },
  { dst := some 45, op := .mv (.t 4) },
  { dst := some 46, op := .ias 259 (.t 44) (.t 45) },
  { dst := some 47, op := .fa 46 258 },
  { dst := some 48, op := .ldi none 47 },
  { dst := some 49, op := .mv (.t 5) },
  { dst := some 50, op := .ias 259 (.t 48) (.t 49) },
  { dst := some 51, op := .ldi (some 259) 50 },
  { dst := some 52, op := .callQ 35 [(.t 43), (.t 51)] },
  { dst := some 53, op := .bsl 35 259 [(.t 52)] },
  { dst := some 54, op := .app 35 259 304 38 (.t 53) },
  { dst := some 3, op := .mv (.x 54) }]
def a11_r11 : List AI := [
  { dst := some 36, op := .mv (.t 5) },
  { dst := some 37, op := .bin .add (.t 36) (.k (.int .i64 1)) },
  { dst := some 5, op := .mv (.t 37) }]
def a11_k3 : AC := (.seq (.block 4 (.reg a11_r12)) (.reg a11_r11))
def a11_L2 : AC := (.seq (.seq (.reg a11_r10) a11_k2) a11_k3)
def a11_k4 : AC := (.block 3 (.loop a11_L2))
def a11_r6 : List AI := [
  { dst := some 17, op := .mv (.x 3) },
  { dst := some 18, op := .mv (.t 0) },
  { dst := some 19, op := .mv (.t 4) },
  { dst := some 20, op := .ias 259 (.t 18) (.t 19) },
  { dst := some 21, op := .ld (some 259) 20 },
  { dst := some 22, op := .bsl 35 259 [(.t 21)] },
  { dst := some 23, op := .app 35 259 304 17 (.t 22) },
  { dst := some 3, op := .mv (.x 23) }]
def a11_k5 : AC := (.cond (.t 26) (.seq (.reg a11_r9) a11_k4) (.reg a11_r6))
def a11_k6 : AC := (.cond (.t 24) .skip (.seq (.reg a11_r8) a11_k5))
def a11_k7 : AC := (.block 2 (.seq (.reg a11_r7) a11_k6))
def a11_r4 : List AI := [
  { dst := some 10, op := .mv (.t 4) },
  { dst := some 11, op := .bin .add (.t 10) (.k (.int .i64 1)) },
  { dst := some 4, op := .mv (.t 11) }]
def a11_k8 : AC := (.seq (.block 1 (.seq (.reg a11_r5) a11_k7)) (.reg a11_r4))
def a11_L1 : AC := (.seq (.seq (.reg a11_r3) a11_k1) a11_k8)
def a11_k9 : AC := (.block 0 (.loop a11_L1))
def a11_r13 : List AI := [
  { dst := some 55, op := .mv (.t 3) },
  { dst := some 2, op := .mv (.t 55) }]
def a11_k10 : AC := (.seq (.reg a11_r13) .ret)
def a11_k11 : AC := (.seq (.seq (.reg a11_r2) a11_k9) a11_k10)
def a11_k12 : AC := (.seq (.reg a11_r1) a11_k11)
def a11_B : AC := (.seq (.reg a11_r0) a11_k12)
/-- catchpole/catchpoleref17.Flat -/
def a11 : AF := { N := 56, V := [], body := a11_B, res := [.t 2] }
theorem c11 : chkF P a11 Go.Proofs.Tryd.f11 = true := by kernel_rfl
mutual
/-- catchpole/catchpoleref17.Flat -/
def ref17_Flat (k : Nat) (x0 : (List T_ref17_Coded)) : Option (List T_ref17_Coded) := match k with
  | 0 => none
  | k + 1 =>
    ref17_Flat_L1 k x0 [] 0
def ref17_Flat_L1 (k : Nat) (t0 : (List T_ref17_Coded)) (t3 : (List T_ref17_Coded)) (t4 : Int) : Option (List T_ref17_Coded) := match k with
  | 0 => none
  | k + 1 =>
    if (decide (t4 < (t0.length : Int))) = true then ((at_ t0 t4).bind fun y14 =>
    if (y14.Kind == 0) = true then (ref17_Flat_J1 k t0 t3 t4)
    else if (y14.Kind == 4) = true then (ref17_Flat_L2 k t0 t3 t4 0)
    else (at_ t0 t4).bind fun y20 =>
    need ((t3.length + ([y20]).length) * 304 ≤ 140737488351232 ∧ t3.length + ([y20]).length ≤ 140737488351232) <|
    ref17_Flat_J1 k t0 (t3 ++ ([y20])) t4)
    else some t3
def ref17_Flat_J1 (k : Nat) (t0 : (List T_ref17_Coded)) (t3 : (List T_ref17_Coded)) (t4 : Int) : Option (List T_ref17_Coded) := match k with
  | 0 => none
  | k + 1 =>
    ref17_Flat_L1 k t0 t3 (IntKind.i64.wrap (t4 + 1))
def ref17_Flat_L2 (k : Nat) (t0 : (List T_ref17_Coded)) (t3 : (List T_ref17_Coded)) (t4 : Int) (t5 : Int) : Option (List T_ref17_Coded) := match k with
  | 0 => none
  | k + 1 =>
    (at_ t0 t4).bind fun y31 =>
    if (decide (t5 < (y31.L.length : Int))) = true then ((at_ t0 t4).bind fun y41 =>
    (at_ t0 t4).bind fun y46 =>
    (at_ y46.L t5).bind fun y50 =>
    (ref17_Fuse k y41.Bits y50).bind fun y52 =>
    need ((t3.length + ([y52]).length) * 304 ≤ 140737488351232 ∧ t3.length + ([y52]).length ≤ 140737488351232) <|
    ref17_Flat_L2 k t0 (t3 ++ ([y52])) t4 (IntKind.i64.wrap (t5 + 1)))
    else ref17_Flat_J1 k t0 t3 t4
end
def a11_q1 (R : Ex → St → Prop) : Ex → St → Prop := Ex.then (wpc (Ev P) a11_k10 R) R
def a11_q2 (R : Ex → St → Prop) : Ex → St → Prop := Ex.inBlock 0 (a11_q1 R)
def a11_q3 (R : Ex → St → Prop) : Ex → St → Prop := Ex.then (wpc (Ev P) (.loop a11_L1) (a11_q2 R)) (a11_q2 R)
def a11_q4 (R : Ex → St → Prop) : Ex → St → Prop := Ex.then (wpc (Ev P) (.reg a11_r4) (a11_q3 R)) (a11_q3 R)
def a11_q5 (R : Ex → St → Prop) : Ex → St → Prop := Ex.inBlock 1 (a11_q4 R)
def a11_q6 (R : Ex → St → Prop) : Ex → St → Prop := Ex.inBlock 2 (a11_q5 R)
def a11_q7 (R : Ex → St → Prop) : Ex → St → Prop := Ex.inBlock 3 (a11_q6 R)
def S_ref17_Flat (k : Nat) : Prop := ∀ (x0 : (List T_ref17_Coded)) (r : (List T_ref17_Coded)), ref17_Flat k x0 = some r → ∀ H, Ev P 11 [(.list (x0.map T_ref17_Coded.enc))] H (.list (r.map T_ref17_Coded.enc)) H
def S_ref17_Flat_L1 (k : Nat) : Prop := ∀ (t0 : (List T_ref17_Coded)) (t3 : (List T_ref17_Coded)) (t4 : Int) (r : (List T_ref17_Coded)) (ρ : Nat → Slot) (H : List (Option (List D))) , ref17_Flat_L1 k t0 t3 t4 = some r → wpc (Ev P) (.loop a11_L1) (a11_q2 (retN a11.res (.list (r.map T_ref17_Coded.enc)))) ⟨upds ρ [(0, .d (.list (t0.map T_ref17_Coded.enc))), (3, .d (.own 35 (t3.map T_ref17_Coded.enc))), (4, .d (.int .i64 t4))], H⟩
def S_ref17_Flat_J1 (k : Nat) : Prop := ∀ (t0 : (List T_ref17_Coded)) (t3 : (List T_ref17_Coded)) (t4 : Int) (r : (List T_ref17_Coded)) (ρ : Nat → Slot) (H : List (Option (List D))) , ref17_Flat_J1 k t0 t3 t4 = some r → wpc (Ev P) (.reg a11_r4) (a11_q3 (retN a11.res (.list (r.map T_ref17_Coded.enc)))) ⟨upds ρ [(0, .d (.list (t0.map T_ref17_Coded.enc))), (3, .d (.own 35 (t3.map T_ref17_Coded.enc))), (4, .d (.int .i64 t4))], H⟩
def S_ref17_Flat_L2 (k : Nat) : Prop := ∀ (t0 : (List T_ref17_Coded)) (t3 : (List T_ref17_Coded)) (t4 : Int) (t5 : Int) (r : (List T_ref17_Coded)) (ρ : Nat → Slot) (H : List (Option (List D))) , ref17_Flat_L2 k t0 t3 t4 t5 = some r → wpc (Ev P) (.loop a11_L2) (a11_q7 (retN a11.res (.list (r.map T_ref17_Coded.enc)))) ⟨upds ρ [(0, .d (.list (t0.map T_ref17_Coded.enc))), (3, .d (.own 35 (t3.map T_ref17_Coded.enc))), (4, .d (.int .i64 t4)), (5, .d (.int .i64 t5))], H⟩
structure C_ref17_Flat (k : Nat) : Prop where
  ref17_Flat : S_ref17_Flat k
  ref17_Flat_L1 : S_ref17_Flat_L1 k
  ref17_Flat_J1 : S_ref17_Flat_J1 k
  ref17_Flat_L2 : S_ref17_Flat_L2 k
theorem t_ref17_Flat (k : Nat) (ih : C_ref17_Flat k) : S_ref17_Flat (k + 1) := by
  intro x0 r h H0
  rw [ref17_Flat] at h
  refine evc_intro a11 Go.Proofs.Tryd.func11 c11 (Nat.le_of_ble_eq_true rfl) (cl_cons rfl cl_nil) rfl ?_ H0
  generalize ([] : List (Option (List D))) = H
  show wpc (Ev P) a11_B (retN a11.res (.list (r.map T_ref17_Coded.enc))) _
  refine c_seq ?_
  refine c_reg ?_
  refine o_mvk ?_
  refine o_nil ?_
  refine k_then ?_
  refine c_seq ?_
  refine c_reg ?_
  refine o_mvk ?_
  refine o_nil ?_
  refine k_then ?_
  refine c_seq ?_
  refine c_seq ?_
  refine c_reg ?_
  refine o_mvk ?_
  refine o_nil ?_
  refine k_then ?_
  refine c_block ?_
  exact wpc_head (ih.ref17_Flat_L1 _ _ _ _ _ _ h) ⟨rfl, rfl, rfl, trivial⟩
theorem t_ref17_Flat_L1 (k : Nat) (ih : C_ref17_Flat k) : S_ref17_Flat_L1 (k + 1) := by
  intro t0 t3 t4 r ρ H h
  rw [ref17_Flat_L1] at h
  refine wpc_loop_i ?_
  refine c_seq ?_
  refine c_seq ?_
  refine c_reg ?_
  refine o_mvt rfl (copy_of_int _ _) ?_
  refine o_mvt rfl (copy_of_list _) ?_
  refine o_len_l (vt rfl (copy_of_list _)) (fun _ => ?_)
  refine o_bin (vt rfl (copy_of_int _ _)) (vt rfl (copy_of_int _ _)) bin_lss ?_
  refine o_nil ?_
  refine k_then ?_
  by_cases c1 : (decide (t4 < (t0.length : Int))) = true
  · have h := it_t h c1
    refine c_cond_t (vt rfl (copy_of_bool _)) c1 ?_
    refine c_skip ?_
    refine k_then ?_
    refine c_seq ?_
    refine c_block ?_
    refine c_seq ?_
    refine c_reg ?_
    refine o_mvt rfl (copy_of_list _) ?_
    refine o_mvt rfl (copy_of_int _ _) ?_
    obtain ⟨y14, hy14, h⟩ := bind_some h
    refine o_ias (vt rfl (copy_of_list _)) (vt rfl (copy_of_int _ _)) hy14 (T_ref17_Coded.enc_cells _) (T_ref17_Coded.len lw _) ?_
    refine o_fai rfl ?_
    refine o_ldi1 rfl (cut_drop0 (T_ref17_Coded.cut_Kind lw _)) (copy_of_int _ _) ?_
    refine o_nil ?_
    refine k_then ?_
    refine c_block ?_
    refine c_seq ?_
    refine c_reg ?_
    refine o_bin (vt rfl (copy_of_int _ _)) (vk (copy_of_int _ _)) bin_eql ?_
    refine o_mvt rfl (copy_of_bool _) ?_
    refine o_nil ?_
    refine k_then ?_
    by_cases c2 : (y14.Kind == 0) = true
    · have h := it_t h c2
      refine c_cond_t (vt rfl (copy_of_bool _)) c2 ?_
      refine c_skip ?_
      refine k_block _ ?_
      refine k_block _ ?_
      refine k_then ?_
      exact wpc_head (ih.ref17_Flat_J1 _ _ _ _ _ _ h) ⟨rfl, rfl, rfl, trivial⟩
    · have c2 := bf c2
      have h := it_f h c2
      refine c_cond_f (vt rfl (copy_of_bool _)) c2 ?_
      refine c_seq ?_
      refine c_reg ?_
      refine o_bin (vt rfl (copy_of_int _ _)) (vk (copy_of_int _ _)) bin_eql ?_
      refine o_mvt rfl (copy_of_bool _) ?_
      refine o_nil ?_
      refine k_then ?_
      by_cases c3 : (y14.Kind == 4) = true
      · have h := it_t h c3
        refine c_cond_t (vt rfl (copy_of_bool _)) c3 ?_
        refine c_seq ?_
        refine c_reg ?_
        refine o_mvk ?_
        refine o_nil ?_
        refine k_then ?_
        refine c_block ?_
        exact wpc_head (ih.ref17_Flat_L2 _ _ _ _ _ _ _ h) ⟨rfl, rfl, rfl, rfl, trivial⟩
      · have c3 := bf c3
        have h := it_f h c3
        refine c_cond_f (vt rfl (copy_of_bool _)) c3 ?_
        refine c_reg ?_
        refine o_mvx rfl ?_
        refine o_mvt rfl (copy_of_list _) ?_
        refine o_mvt rfl (copy_of_int _ _) ?_
        obtain ⟨y20, hy20, h⟩ := bind_some h
        refine o_ias (vt rfl (copy_of_list _)) (vt rfl (copy_of_int _ _)) hy20 (T_ref17_Coded.enc_cells _) (T_ref17_Coded.len lw _) ?_
        refine o_ldi rfl (cut_all (T_ref17_Coded.len _ _)) (T_ref17_Coded.copy wr_l _) ?_
        refine o_bsl (f := T_ref17_Coded.enc) (v_cons (vt rfl (copy_of_agg _)) v_nil) (l_cons (T_ref17_Coded.enc_eq _).symm l_nil) T_ref17_Coded.elem ?_
        obtain ⟨c4, h⟩ := need_some h
        refine o_app (f := T_ref17_Coded.enc) (xs := t3) (ys := ([y20])) T_ref17_Coded.elem rfl (vt rfl (copy_of_own _ _)) c4 ?_
        refine o_mvx rfl ?_
        refine o_nil ?_
        refine k_block _ ?_
        refine k_block _ ?_
        refine k_then ?_
        exact wpc_head (ih.ref17_Flat_J1 _ _ _ _ _ _ h) ⟨rfl, rfl, rfl, trivial⟩
  · have c1 := bf c1
    have h := it_f h c1
    refine c_cond_f (vt rfl (copy_of_bool _)) c1 ?_
    refine c_exit ?_
    refine k_then_exit ?_
    refine k_then_exit ?_
    refine k_block_exit _ ?_
    refine k_then ?_
    refine c_seq ?_
    refine c_reg ?_
    refine o_mvt rfl (copy_of_own _ _) ?_
    refine o_mvt rfl (copy_of_list _) ?_
    refine o_nil ?_
    refine k_then ?_
    refine c_ret ?_
    obtain rfl := Option.some.inj h
    exact r_one rfl (res_t rfl (copy_of_list _)) (.inl rfl)
theorem t_ref17_Flat_J1 (k : Nat) (ih : C_ref17_Flat k) : S_ref17_Flat_J1 (k + 1) := by
  intro t0 t3 t4 r ρ H h
  rw [ref17_Flat_J1] at h
  refine c_reg ?_
  refine o_mvt rfl (copy_of_int _ _) ?_
  refine o_bin (vt rfl (copy_of_int _ _)) (vk (copy_of_int _ _)) bin_add ?_
  refine o_mvt rfl (copy_of_int _ _) ?_
  refine o_nil ?_
  refine k_then ?_
  exact wpc_head (ih.ref17_Flat_L1 _ _ _ _ _ _ h) ⟨rfl, rfl, rfl, trivial⟩
theorem t_ref17_Flat_L2 (k : Nat) (ih : C_ref17_Flat k) : S_ref17_Flat_L2 (k + 1) := by
  intro t0 t3 t4 t5 r ρ H h
  rw [ref17_Flat_L2] at h
  refine wpc_loop_i ?_
  refine c_seq ?_
  refine c_seq ?_
  refine c_reg ?_
  refine o_mvt rfl (copy_of_int _ _) ?_
  refine o_mvt rfl (copy_of_list _) ?_
  refine o_mvt rfl (copy_of_int _ _) ?_
  obtain ⟨y31, hy31, h⟩ := bind_some h
  refine o_ias (vt rfl (copy_of_list _)) (vt rfl (copy_of_int _ _)) hy31 (T_ref17_Coded.enc_cells _) (T_ref17_Coded.len lw _) ?_
  refine o_fai rfl ?_
  refine o_ldi1 rfl (cut_drop0 (T_ref17_Coded.cut_L lw _)) (copy_of_list _) ?_
  refine o_len_l (vt rfl (copy_of_list _)) (fun _ => ?_)
  refine o_bin (vt rfl (copy_of_int _ _)) (vt rfl (copy_of_int _ _)) bin_lss ?_
  refine o_nil ?_
  refine k_then ?_
  by_cases c1 : (decide (t5 < (y31.L.length : Int))) = true
  · have h := it_t h c1
    refine c_cond_t (vt rfl (copy_of_bool _)) c1 ?_
    refine c_skip ?_
    refine k_then ?_
    refine c_seq ?_
    refine c_block ?_
    refine c_reg ?_
    refine o_mvx rfl ?_
    refine o_mvt rfl (copy_of_list _) ?_
    refine o_mvt rfl (copy_of_int _ _) ?_
    obtain ⟨y41, hy41, h⟩ := bind_some h
    refine o_ias (vt rfl (copy_of_list _)) (vt rfl (copy_of_int _ _)) hy41 (T_ref17_Coded.enc_cells _) (T_ref17_Coded.len lw _) ?_
    refine o_fai rfl ?_
    refine o_ldI1 rfl (cut_drop0 (T_ref17_Coded.cut_Bits lw _)) (copy_of_str _) ?_
    refine o_mvt rfl (copy_of_list _) ?_
    refine o_mvt rfl (copy_of_int _ _) ?_
    obtain ⟨y46, hy46, h⟩ := bind_some h
    refine o_ias (vt rfl (copy_of_list _)) (vt rfl (copy_of_int _ _)) hy46 (T_ref17_Coded.enc_cells _) (T_ref17_Coded.len lw _) ?_
    refine o_fai rfl ?_
    refine o_ldI1 rfl (cut_drop0 (T_ref17_Coded.cut_L lw _)) (copy_of_list _) ?_
    refine o_mvt rfl (copy_of_int _ _) ?_
    obtain ⟨y50, hy50, h⟩ := bind_some h
    refine o_ias (vt rfl (copy_of_list _)) (vt rfl (copy_of_int _ _)) hy50 (T_ref17_Coded.enc_cells _) (T_ref17_Coded.len lw _) ?_
    refine o_ldI rfl (cut_all (T_ref17_Coded.len _ _)) (T_ref17_Coded.copy wr_l _) ?_
    obtain ⟨y52, hy52, h⟩ := bind_some h
    refine o_callq (g_cons (gt_ rfl (copy_of_str _)) (g_cons (gt_ rfl (copy_of_agg _)) g_nil)) (s_ref17_Fuse k _ _ _ hy52 _) ?_
    refine o_bsl (f := T_ref17_Coded.enc) (v_cons (vt rfl (copy_of_agg _)) v_nil) (l_cons (T_ref17_Coded.enc_eq _).symm l_nil) T_ref17_Coded.elem ?_
    obtain ⟨c2, h⟩ := need_some h
    refine o_app (f := T_ref17_Coded.enc) (xs := t3) (ys := ([y52])) T_ref17_Coded.elem rfl (vt rfl (copy_of_own _ _)) c2 ?_
    refine o_mvx rfl ?_
    refine o_nil ?_
    refine k_block _ ?_
    refine k_then ?_
    refine c_reg ?_
    refine o_mvt rfl (copy_of_int _ _) ?_
    refine o_bin (vt rfl (copy_of_int _ _)) (vk (copy_of_int _ _)) bin_add ?_
    refine o_mvt rfl (copy_of_int _ _) ?_
    refine o_nil ?_
    refine k_then ?_
    exact wpc_head (ih.ref17_Flat_L2 _ _ _ _ _ _ _ h) ⟨rfl, rfl, rfl, rfl, trivial⟩
  · have c1 := bf c1
    have h := it_f h c1
    refine c_cond_f (vt rfl (copy_of_bool _)) c1 ?_
    refine c_exit ?_
    refine k_then_exit ?_
    refine k_then_exit ?_
    refine k_block_exit _ ?_
    refine k_block _ ?_
    refine k_block _ ?_
    refine k_then ?_
    exact wpc_head (ih.ref17_Flat_J1 _ _ _ _ _ _ h) ⟨rfl, rfl, rfl, trivial⟩
theorem z_ref17_Flat : S_ref17_Flat 0 := by
  intro x0 r h H
  rw [ref17_Flat] at h; cases h
theorem z_ref17_Flat_L1 : S_ref17_Flat_L1 0 := by
  intro t0 t3 t4 r ρ H h
  rw [ref17_Flat_L1] at h; cases h
theorem z_ref17_Flat_J1 : S_ref17_Flat_J1 0 := by
  intro t0 t3 t4 r ρ H h
  rw [ref17_Flat_J1] at h; cases h
theorem z_ref17_Flat_L2 : S_ref17_Flat_L2 0 := by
  intro t0 t3 t4 t5 r ρ H h
  rw [ref17_Flat_L2] at h; cases h
theorem C_ref17_Flat.all : ∀ k, C_ref17_Flat k
  | 0 => ⟨z_ref17_Flat, z_ref17_Flat_L1, z_ref17_Flat_J1, z_ref17_Flat_L2⟩
  | k + 1 => ⟨t_ref17_Flat k (C_ref17_Flat.all k), t_ref17_Flat_L1 k (C_ref17_Flat.all k), t_ref17_Flat_J1 k (C_ref17_Flat.all k), t_ref17_Flat_L2 k (C_ref17_Flat.all k)⟩
theorem s_ref17_Flat (k : Nat) : S_ref17_Flat k := (C_ref17_Flat.all k).ref17_Flat
def a39_r0 : List AI := [
  { dst := some 2, op := .box (.t 0) },
  { dst := some 3, op := .box (.t 1) },
  { dst := some 4, op := .mv (.k (.bool false)) }]
def a39_r1 : List AI := [
  { dst := some 6, op := .fa 2 0 },
  { dst := some 7, op := .ld none 6 },
  { dst := some 8, op := .fa 3 0 },
  { dst := some 9, op := .ld none 8 },
  { dst := some 10, op := .bin .neq (.t 7) (.t 9) },
  { dst := some 11, op := .mv (.t 10) },
  { dst := some 12, g := some (11, false), op := .fa 2 2 },
  { dst := some 13, g := some (11, false), op := .ld (some 256) 12 },
  { dst := some 14, g := some (11, false), op := .fa 3 2 },
  { dst := some 15, g := some (11, false), op := .ld (some 256) 14 },
  { dst := some 16, g := some (11, false), op := .eqv true .bool 256 (.t 13) (.t 15) },
  { dst := some 17, op := .pick (.t 11) (.k (.bool true)) (.t 16) },
  { dst := some 18, op := .mv (.t 17) },
  { dst := some 19, g := some (18, false), op := .fa 2 258 },
  { dst := some 20, g := some (18, false), op := .ld none 19 },
  { dst := some 21, g := some (18, false), op := .len false (.t 20) },
  { dst := some 22, g := some (18, false), op := .fa 3 258 },
  { dst := some 23, g := some (18, false), op := .ld none 22 },
  { dst := some 24, g := some (18, false), op := .len false (.t 23) },
  { dst := some 25, g := some (18, false), op := .bin .neq (.t 21) (.t 24) },
  { dst := some 26, op := .pick (.t 18) (.k (.bool true)) (.t 25) }]
def a39_r2 : List AI := [
  { dst := some 4, op := .mv (.k (.bool false)) }]
def a39_k1 : AC := (.cond (.t 26) (.seq (.reg a39_r2) .ret) .skip)
def a39_r3 : List AI := [
  { dst := some 5, op := .mv (.k (.int .i64 0)) }]
def a39_r4 : List AI := [
  { dst := some 27, op := .mv (.t 5) },
  { dst := some 28, op := .fa 2 258 },
  { dst := some 29, op := .ld none 28 },
  { dst := some 30, op := .len false (.t 29) },
  { dst := some 31, op := .bin .lss (.t 27) (.t 30) }]
def a39_k2 : AC := (.cond (.t 31) .skip (.exit 0))
def a39_r6 : List AI := [
  { dst := some 34, op := .fa 2 258 },
  { dst := some 35, op := .ldv none 34 2 258 },
  { dst := some 36, op := .mv (.t 5) },
  { dst := some 37, op := .ias 259 (.t 35) (.t 36) },
  { dst := some 38, op := .ldi (some 259) 37 },
  { dst := some 39, op := .fa 3 258 },
  { dst := some 40, op := .ldv none 39 3 258 },
  { dst := some 41, op := .mv (.t 5) },
  { dst := some 42, op := .ias 259 (.t 40) (.t 41) },
  { dst := some 43, op := .ldi (some 259) 42 },
  { dst := some 44, op := .callQ 39 [(.t 38), (.t 43)] },
  { dst := some 45, op := .un .not (.t 44) }]
def a39_r7 : List AI := [
  { dst := some 4, op := .mv (.k (.bool false)) }]
def a39_k3 : AC := (.cond (.t 45) (.seq (.reg a39_r7) .ret) .skip)
def a39_r5 : List AI := [
  { dst := some 32, op := .mv (.t 5) },
  { dst := some 33, op := .bin .add (.t 32) (.k (.int .i64 1)) },
  { dst := some 5, op := .mv (.t 33) }]
def a39_k4 : AC := (.seq (.block 1 (.seq (.reg a39_r6) a39_k3)) (.reg a39_r5))
def a39_L1 : AC := (.seq (.seq (.reg a39_r4) a39_k2) a39_k4)
def a39_k5 : AC := (.block 0 (.loop a39_L1))
def a39_r8 : List AI := [
  { dst := some 4, op := .mv (.k (.bool true)) }]
def a39_k6 : AC := (.seq (.reg a39_r8) .ret)
def a39_k7 : AC := (.seq (.seq (.reg a39_r3) a39_k5) a39_k6)
def a39_k8 : AC := (.seq (.seq (.reg a39_r1) a39_k1) a39_k7)
def a39_B : AC := (.seq (.reg a39_r0) a39_k8)
/-- catchpole/catchpoleref17.Same -/
def a39 : AF := { N := 46, V := [2, 3], body := a39_B, res := [.t 4] }
theorem c39 : chkF P a39 Go.Proofs.Tryd.f39 = true := by kernel_rfl
mutual
/-- catchpole/catchpoleref17.Same -/
def ref17_Same (k : Nat) (x0 : T_ref17_Coded) (x1 : T_ref17_Coded) : Option Bool := match k with
  | 0 => none
  | k + 1 =>
    if (((x0.Kind != x1.Kind) || (!(x0.Set == x1.Set))) || ((x0.L.length : Int) != (x1.L.length : Int))) = true then (some false)
    else ref17_Same_L1 k x0 x1 0
def ref17_Same_L1 (k : Nat) (v2 : T_ref17_Coded) (v3 : T_ref17_Coded) (t5 : Int) : Option Bool := match k with
  | 0 => none
  | k + 1 =>
    if (decide (t5 < (v2.L.length : Int))) = true then ((at_ v2.L t5).bind fun y37 =>
    (at_ v3.L t5).bind fun y42 =>
    (ref17_Same k y37 y42).bind fun y44 =>
    if (!y44) = true then (some false)
    else ref17_Same_L1 k v2 v3 (IntKind.i64.wrap (t5 + 1)))
    else some true
end
def a39_q1 (R : Ex → St → Prop) : Ex → St → Prop := Ex.then (wpc (Ev P) a39_k7 R) R
def a39_q2 (R : Ex → St → Prop) : Ex → St → Prop := Ex.then (wpc (Ev P) a39_k1 (a39_q1 R)) (a39_q1 R)
def a39_q3 (R : Ex → St → Prop) : Ex → St → Prop := Ex.then (wpc (Ev P) a39_k6 R) R
def a39_q4 (R : Ex → St → Prop) : Ex → St → Prop := Ex.inBlock 0 (a39_q3 R)
def S_ref17_Same (k : Nat) : Prop := ∀ (x0 : T_ref17_Coded) (x1 : T_ref17_Coded) (r : Bool), ref17_Same k x0 x1 = some r → ∀ H, Ev P 39 [(.agg (T_ref17_Coded.cells lw x0)), (.agg (T_ref17_Coded.cells lw x1))] H (.bool r) H
def S_ref17_Same_L1 (k : Nat) : Prop := ∀ (v2 : T_ref17_Coded) (v3 : T_ref17_Coded) (t5 : Int) (r : Bool) (ρ : Nat → Slot) (H : List (Option (List D))) , ref17_Same_L1 k v2 v3 t5 = some r → wpc (Ev P) (.loop a39_L1) (a39_q4 (retN a39.res (.bool r))) ⟨upds ρ [(2, .var (T_ref17_Coded.cells lw v2)), (3, .var (T_ref17_Coded.cells lw v3)), (5, .d (.int .i64 t5))], H⟩
structure C_ref17_Same (k : Nat) : Prop where
  ref17_Same : S_ref17_Same k
  ref17_Same_L1 : S_ref17_Same_L1 k
theorem t_ref17_Same (k : Nat) (ih : C_ref17_Same k) : S_ref17_Same (k + 1) := by
  intro x0 x1 r h H0
  rw [ref17_Same] at h
  refine evc_intro a39 Go.Proofs.Tryd.func39 c39 (Nat.le_of_ble_eq_true rfl) (cl_cons (T_ref17_Coded.closed _) (cl_cons (T_ref17_Coded.closed _) cl_nil)) rfl ?_ H0
  generalize ([] : List (Option (List D))) = H
  show wpc (Ev P) a39_B (retN a39.res (.bool r)) _
  refine c_seq ?_
  refine c_reg ?_
  refine o_box (vt rfl (copy_of_agg _)) (T_ref17_Coded.one wr_l _) (T_ref17_Coded.copy wr_l _) ?_
  refine o_box (vt rfl (copy_of_agg _)) (T_ref17_Coded.one wr_l _) (T_ref17_Coded.copy wr_l _) ?_
  refine o_mvk ?_
  refine o_nil ?_
  refine k_then ?_
  refine c_seq ?_
  refine c_seq ?_
  refine c_reg ?_
  refine o_fa (lv_v rfl) ?_
  refine o_ld1 (lv_l rfl) rfl (T_ref17_Coded.cut_Kind lw _) (copy_of_int _ _) ?_
  refine o_fa (lv_v rfl) ?_
  refine o_ld1 (lv_l rfl) rfl (T_ref17_Coded.cut_Kind lw _) (copy_of_int _ _) ?_
  refine o_bin (vt rfl (copy_of_int _ _)) (vt rfl (copy_of_int _ _)) bin_neq ?_
  refine o_mvt rfl (copy_of_bool _) ?_
  have key1 : ∀ ρ : Nat → Slot, wpo (Ev P) (a39_r1.drop 12) ((a39_q2 (retN a39.res (.bool r))) .normal) ⟨upds ρ [(2, .var (T_ref17_Coded.cells lw x0)), (3, .var (T_ref17_Coded.cells lw x1)), (17, .d (.bool ((x0.Kind != x1.Kind) || (!(x0.Set == x1.Set)))))], H⟩ := by
    intro ρ
    refine o_mvt rfl (copy_of_bool _) ?_
    have key3 : ∀ ρ : Nat → Slot, wpo (Ev P) (a39_r1.drop 21) ((a39_q2 (retN a39.res (.bool r))) .normal) ⟨upds ρ [(2, .var (T_ref17_Coded.cells lw x0)), (3, .var (T_ref17_Coded.cells lw x1)), (26, .d (.bool (((x0.Kind != x1.Kind) || (!(x0.Set == x1.Set))) || ((x0.L.length : Int) != (x1.L.length : Int)))))], H⟩ := by
      intro ρ
      refine o_nil ?_
      refine k_then ?_
      by_cases c5 : (((x0.Kind != x1.Kind) || (!(x0.Set == x1.Set))) || ((x0.L.length : Int) != (x1.L.length : Int))) = true
      · have h := it_t h c5
        refine c_cond_t (vt rfl (copy_of_bool _)) c5 ?_
        refine c_seq ?_
        refine c_reg ?_
        refine o_mvk ?_
        refine o_nil ?_
        refine k_then ?_
        refine c_ret ?_
        refine k_then_ret ?_
        obtain rfl := Option.some.inj h
        exact r_one rfl (res_t rfl (copy_of_bool _)) (.inl rfl)
      · have c5 := bf c5
        have h := it_f h c5
        refine c_cond_f (vt rfl (copy_of_bool _)) c5 ?_
        refine c_skip ?_
        refine k_then ?_
        refine c_seq ?_
        refine c_seq ?_
        refine c_reg ?_
        refine o_mvk ?_
        refine o_nil ?_
        refine k_then ?_
        refine c_block ?_
        exact wpc_head (ih.ref17_Same_L1 _ _ _ _ _ _ h) ⟨rfl, rfl, rfl, trivial⟩
    by_cases c4 : ((x0.Kind != x1.Kind) || (!(x0.Set == x1.Set))) = true
    · clear h
      refine o_g_f rfl (ne_t c4) ?_
      refine o_g_f rfl (ne_t c4) ?_
      refine o_g_f rfl (ne_t c4) ?_
      refine o_g_f rfl (ne_t c4) ?_
      refine o_g_f rfl (ne_t c4) ?_
      refine o_g_f rfl (ne_t c4) ?_
      refine o_g_f rfl (ne_t c4) ?_
      refine o_pick_t (vt rfl (copy_of_bool _)) c4 (vk (copy_of_bool _)) ?_
      exact wpo_head (key3 _) ⟨rfl, rfl, (by simp only [c4]; rfl), trivial⟩
    · clear h
      have c4 := bf c4
      refine o_g_t rfl c4 ?_
      refine o_fa (lv_v rfl) ?_
      refine o_g_t rfl c4 ?_
      refine o_ld1 (lv_l rfl) rfl (T_ref17_Coded.cut_L lw _) (Wr.copy wr_l _ _) ?_
      refine o_g_t rfl c4 ?_
      refine o_len_l (vt rfl (copy_of_list _)) (fun _ => ?_)
      refine o_g_t rfl c4 ?_
      refine o_fa (lv_v rfl) ?_
      refine o_g_t rfl c4 ?_
      refine o_ld1 (lv_l rfl) rfl (T_ref17_Coded.cut_L lw _) (Wr.copy wr_l _ _) ?_
      refine o_g_t rfl c4 ?_
      refine o_len_l (vt rfl (copy_of_list _)) (fun _ => ?_)
      refine o_g_t rfl c4 ?_
      refine o_bin (vt rfl (copy_of_int _ _)) (vt rfl (copy_of_int _ _)) bin_neq ?_
      refine o_pick_f (vt rfl (copy_of_bool _)) c4 (vt rfl (copy_of_bool _)) ?_
      exact wpo_head (key3 _) ⟨rfl, rfl, (by simp only [c4]; rfl), trivial⟩
  by_cases c2 : (x0.Kind != x1.Kind) = true
  · clear h
    refine o_g_f rfl (ne_t c2) ?_
    refine o_g_f rfl (ne_t c2) ?_
    refine o_g_f rfl (ne_t c2) ?_
    refine o_g_f rfl (ne_t c2) ?_
    refine o_g_f rfl (ne_t c2) ?_
    refine o_pick_t (vt rfl (copy_of_bool _)) c2 (vk (copy_of_bool _)) ?_
    exact wpo_head (key1 _) ⟨rfl, rfl, (by simp only [c2]; rfl), trivial⟩
  · clear h
    have c2 := bf c2
    refine o_g_t rfl c2 ?_
    refine o_fa (lv_v rfl) ?_
    refine o_g_t rfl c2 ?_
    refine o_ld (lv_l rfl) rfl (T_ref17_Coded.cut_Set lw _) cm_bool ?_
    refine o_g_t rfl c2 ?_
    refine o_fa (lv_v rfl) ?_
    refine o_g_t rfl c2 ?_
    refine o_ld (lv_l rfl) rfl (T_ref17_Coded.cut_Set lw _) cm_bool ?_
    refine o_g_t rfl c2 ?_
    refine o_nev (vt rfl (copy_of_agg _)) (vt rfl (copy_of_agg _)) deq_arr_bool ?_
    refine o_pick_f (vt rfl (copy_of_bool _)) c2 (vt rfl (copy_of_bool _)) ?_
    exact wpo_head (key1 _) ⟨rfl, rfl, (by simp only [c2]; rfl), trivial⟩
theorem t_ref17_Same_L1 (k : Nat) (ih : C_ref17_Same k) : S_ref17_Same_L1 (k + 1) := by
  intro v2 v3 t5 r ρ H h
  rw [ref17_Same_L1] at h
  refine wpc_loop_i ?_
  refine c_seq ?_
  refine c_seq ?_
  refine c_reg ?_
  refine o_mvt rfl (copy_of_int _ _) ?_
  refine o_fa (lv_v rfl) ?_
  refine o_ld1 (lv_l rfl) rfl (T_ref17_Coded.cut_L lw _) (Wr.copy wr_l _ _) ?_
  refine o_len_l (vt rfl (copy_of_list _)) (fun _ => ?_)
  refine o_bin (vt rfl (copy_of_int _ _)) (vt rfl (copy_of_int _ _)) bin_lss ?_
  refine o_nil ?_
  refine k_then ?_
  by_cases c1 : (decide (t5 < (v2.L.length : Int))) = true
  · have h := it_t h c1
    refine c_cond_t (vt rfl (copy_of_bool _)) c1 ?_
    refine c_skip ?_
    refine k_then ?_
    refine c_seq ?_
    refine c_block ?_
    refine c_seq ?_
    refine c_reg ?_
    refine o_fa (lv_v rfl) ?_
    refine o_ldv1 (lv_l rfl) rfl (T_ref17_Coded.cut_L lw _) (Wr.copy wr_l _ _) ?_
    refine o_mvt rfl (copy_of_int _ _) ?_
    obtain ⟨y37, hy37, h⟩ := bind_some h
    refine o_ias (vt rfl (copy_of_list _)) (vt rfl (copy_of_int _ _)) hy37 (T_ref17_Coded.enc_cells _) (T_ref17_Coded.len lw _) ?_
    refine o_ldI rfl (cut_all (T_ref17_Coded.len _ _)) (T_ref17_Coded.copy wr_l _) ?_
    refine o_fa (lv_v rfl) ?_
    refine o_ldv1 (lv_l rfl) rfl (T_ref17_Coded.cut_L lw _) (Wr.copy wr_l _ _) ?_
    refine o_mvt rfl (copy_of_int _ _) ?_
    obtain ⟨y42, hy42, h⟩ := bind_some h
    refine o_ias (vt rfl (copy_of_list _)) (vt rfl (copy_of_int _ _)) hy42 (T_ref17_Coded.enc_cells _) (T_ref17_Coded.len lw _) ?_
    refine o_ldI rfl (cut_all (T_ref17_Coded.len _ _)) (T_ref17_Coded.copy wr_l _) ?_
    obtain ⟨y44, hy44, h⟩ := bind_some h
    refine o_callq (g_cons (gt_ rfl (copy_of_agg _)) (g_cons (gt_ rfl (copy_of_agg _)) g_nil)) (ih.ref17_Same _ _ _ hy44 _) ?_
    refine o_un (vt rfl (copy_of_bool _)) un_not ?_
    refine o_nil ?_
    refine k_then ?_
    by_cases c2 : (!y44) = true
    · have h := it_t h c2
      refine c_cond_t (vt rfl (copy_of_bool _)) c2 ?_
      refine c_seq ?_
      refine c_reg ?_
      refine o_mvk ?_
      refine o_nil ?_
      refine k_then ?_
      refine c_ret ?_
      refine k_block_ret ?_
      refine k_then_ret ?_
      refine k_then_ret ?_
      refine k_block_ret ?_
      refine k_then_ret ?_
      obtain rfl := Option.some.inj h
      exact r_one rfl (res_t rfl (copy_of_bool _)) (.inl rfl)
    · have c2 := bf c2
      have h := it_f h c2
      refine c_cond_f (vt rfl (copy_of_bool _)) c2 ?_
      refine c_skip ?_
      refine k_block _ ?_
      refine k_then ?_
      refine c_reg ?_
      refine o_mvt rfl (copy_of_int _ _) ?_
      refine o_bin (vt rfl (copy_of_int _ _)) (vk (copy_of_int _ _)) bin_add ?_
      refine o_mvt rfl (copy_of_int _ _) ?_
      refine o_nil ?_
      refine k_then ?_
      exact wpc_head (ih.ref17_Same_L1 _ _ _ _ _ _ h) ⟨rfl, rfl, rfl, trivial⟩
  · have c1 := bf c1
    have h := it_f h c1
    refine c_cond_f (vt rfl (copy_of_bool _)) c1 ?_
    refine c_exit ?_
    refine k_then_exit ?_
    refine k_then_exit ?_
    refine k_block_exit _ ?_
    refine k_then ?_
    refine c_seq ?_
    refine c_reg ?_
    refine o_mvk ?_
    refine o_nil ?_
    refine k_then ?_
    refine c_ret ?_
    obtain rfl := Option.some.inj h
    exact r_one rfl (res_t rfl (copy_of_bool _)) (.inl rfl)
theorem z_ref17_Same : S_ref17_Same 0 := by
  intro x0 x1 r h H
  rw [ref17_Same] at h; cases h
theorem z_ref17_Same_L1 : S_ref17_Same_L1 0 := by
  intro v2 v3 t5 r ρ H h
  rw [ref17_Same_L1] at h; cases h
theorem C_ref17_Same.all : ∀ k, C_ref17_Same k
  | 0 => ⟨z_ref17_Same, z_ref17_Same_L1⟩
  | k + 1 => ⟨t_ref17_Same k (C_ref17_Same.all k), t_ref17_Same_L1 k (C_ref17_Same.all k)⟩
theorem s_ref17_Same (k : Nat) : S_ref17_Same k := (C_ref17_Same.all k).ref17_Same
def a13_r0 : List AI := [
  { dst := some 2, op := .mv (.k (.list [])) }]
def a13_r1 : List AI := [
  { dst := some 3, op := .mv (.k (.own 35 [])) }]
def a13_r2 : List AI := [
  { dst := some 4, op := .mv (.k (.int .i64 0)) }]
def a13_r3 : List AI := [
  { dst := some 7, op := .mv (.t 4) },
  { dst := some 8, op := .mv (.t 0) },
  { dst := some 9, op := .len false (.t 8) },
  { dst := some 10, op := .bin .lss (.t 7) (.t 9) }]
def a13_k1 : AC := (.cond (.t 10) .skip (.exit 0))
def a13_r5 : List AI := [
  { dst := some 5, op := .mv (.k (.bool false)) }]
def a13_r6 : List AI := [
  { dst := some 6, op := .mv (.k (.int .i64 0)) }]
def a13_r7 : List AI := [
  { dst := some 13, op := .mv (.t 6) },
  { dst := some 14, op := .mv (.t 3) },
  { dst := some 15, op := .len false (.t 14) },
  { dst := some 16, op := .bin .lss (.t 13) (.t 15) }]
def a13_k2 : AC := (.cond (.t 16) .skip (.exit 2))
def a13_r9 : List AI := [
  { dst := some 19, op := .mv (.t 5) },
  { dst := some 20, op := .mv (.t 19) },
  { dst := some 21, g := some (20, false), op := .mv (.t 3) },
  { dst := some 22, g := some (20, false), op := .mv (.t 6) },
  { dst := some 23, g := some (20, false), op := .ias 259 (.t 21) (.t 22) },
  { dst := some 24, g := some (20, false), op := .ldi (some 259) 23 },
  { dst := some 25, g := some (20, false), op := .mv (.t 0) },
  { dst := some 26, g := some (20, false), op := .mv (.t 4) },
  { dst := some 27, g := some (20, false), op := .ias 259 (.t 25) (.t 26) },
  { dst := some 28, g := some (20, false), op := .ldi (some 259) 27 },
  { dst := some 29, g := some (20, false), op := .callQ 39 [(.t 24), (.t 28)] },
  { dst := some 30, op := .pick (.t 20) (.k (.bool true)) (.t 29) },
  { dst := some 5, op := .mv (.t 30) }]
def a13_r8 : List AI := [
  { dst := some 17, op := .mv (.t 6) },
  { dst := some 18, op := .bin .add (.t 17) (.k (.int .i64 1)) },
  { dst := some 6, op := .mv (.t 18) }]
def a13_k3 : AC := (.seq (.block 3 (.reg a13_r9)) (.reg a13_r8))
def a13_L2 : AC := (.seq (.seq (.reg a13_r7) a13_k2) a13_k3)
def a13_k4 : AC := (.block 2 (.loop a13_L2))
def a13_r10 : List AI := [
  { dst := some 31, op := .mv (.t 5) },
  { dst := some 32, op := .un .not (.t 31) }]
def a13_r11 : List AI := [
  { dst := some 33, op := .mv (.x 3) },
  { dst := some 34, op := .mv (.t 0) },
  { dst := some 35, op := .mv (.t 4) },
  { dst := some 36, op := .ias 259 (.t 34) (.t 35) },
  { dst := some 37, op := .ld (some 259) 36 },
  { dst := some 38, op := .bsl 35 259 [(.t 37)] },
  { dst := some 39, op := .app 35 259 304 33 (.t 38) },
  { dst := some 3, op := .mv (.x 39) }]
def a13_k5 : AC := (.cond (.t 32) (.reg a13_r11) .skip)
def a13_k6 : AC := (.seq (.reg a13_r10) a13_k5)
def a13_k7 : AC := (.seq (.seq (.reg a13_r6) a13_k4) a13_k6)
def a13_r4 : List AI := [
  { dst := some 11, op := .mv (.t 4) },
  { dst := some 12, op := .bin .add (.t 11) (.k (.int .i64 1)) },
  { dst := some 4, op := .mv (.t 12) }]
def a13_k8 : AC := (.seq (.block 1 (.seq (.reg a13_r5) a13_k7)) (.reg a13_r4))
def a13_L1 : AC := (.seq (.seq (.reg a13_r3) a13_k1) a13_k8)
def a13_k9 : AC := (.block 0 (.loop a13_L1))
def a13_r12 : List AI := [
  { dst := some 40, op := .mv (.t 3) },
  { dst := some 2, op := .mv (.t 40) }]
def a13_k10 : AC := (.seq (.reg a13_r12) .ret)
def a13_k11 : AC := (.seq (.seq (.reg a13_r2) a13_k9) a13_k10)
def a13_k12 : AC := (.seq (.reg a13_r1) a13_k11)
def a13_B : AC := (.seq (.reg a13_r0) a13_k12)
/-- catchpole/catchpoleref17.Once -/
def a13 : AF := { N := 41, V := [], body := a13_B, res := [.t 2] }
theorem c13 : chkF P a13 Go.Proofs.Tryd.f13 = true := by kernel_rfl
mutual
/-- catchpole/catchpoleref17.Once -/
def ref17_Once (k : Nat) (x0 : (List T_ref17_Coded)) : Option (List T_ref17_Coded) := match k with
  | 0 => none
  | k + 1 =>
    ref17_Once_L1 k x0 [] 0
def ref17_Once_L1 (k : Nat) (t0 : (List T_ref17_Coded)) (t3 : (List T_ref17_Coded)) (t4 : Int) : Option (List T_ref17_Coded) := match k with
  | 0 => none
  | k + 1 =>
    if (decide (t4 < (t0.length : Int))) = true then (ref17_Once_L2 k t0 t3 t4 false 0)
    else some t3
def ref17_Once_L2 (k : Nat) (t0 : (List T_ref17_Coded)) (t3 : (List T_ref17_Coded)) (t4 : Int) (t5 : Bool) (t6 : Int) : Option (List T_ref17_Coded) := match k with
  | 0 => none
  | k + 1 =>
    if (decide (t6 < (t3.length : Int))) = true then (if t5 = true then (ref17_Once_J1 k t0 t3 t4 t6 true)
    else (at_ t3 t6).bind fun y23 =>
    (at_ t0 t4).bind fun y27 =>
    (ref17_Same k y23 y27).bind fun y29 =>
    ref17_Once_J1 k t0 t3 t4 t6 y29)
    else if (!t5) = true then ((at_ t0 t4).bind fun y36 =>
    need ((t3.length + ([y36]).length) * 304 ≤ 140737488351232 ∧ t3.length + ([y36]).length ≤ 140737488351232) <|
    ref17_Once_J2 k t0 (t3 ++ ([y36])) t4)
    else ref17_Once_J2 k t0 t3 t4
def ref17_Once_J1 (k : Nat) (t0 : (List T_ref17_Coded)) (t3 : (List T_ref17_Coded)) (t4 : Int) (t6 : Int) (t30 : Bool) : Option (List T_ref17_Coded) := match k with
  | 0 => none
  | k + 1 =>
    ref17_Once_L2 k t0 t3 t4 t30 (IntKind.i64.wrap (t6 + 1))
def ref17_Once_J2 (k : Nat) (t0 : (List T_ref17_Coded)) (t3 : (List T_ref17_Coded)) (t4 : Int) : Option (List T_ref17_Coded) := match k with
  | 0 => none
  | k + 1 =>
    ref17_Once_L1 k t0 t3 (IntKind.i64.wrap (t4 + 1))
end
def a13_q1 (R : Ex → St → Prop) : Ex → St → Prop := Ex.then (wpc (Ev P) a13_k10 R) R
def a13_q2 (R : Ex → St → Prop) : Ex → St → Prop := Ex.inBlock 0 (a13_q1 R)
def a13_q3 (R : Ex → St → Prop) : Ex → St → Prop := Ex.then (wpc (Ev P) (.loop a13_L1) (a13_q2 R)) (a13_q2 R)
def a13_q4 (R : Ex → St → Prop) : Ex → St → Prop := Ex.then (wpc (Ev P) (.reg a13_r4) (a13_q3 R)) (a13_q3 R)
def a13_q5 (R : Ex → St → Prop) : Ex → St → Prop := Ex.inBlock 1 (a13_q4 R)
def a13_q6 (R : Ex → St → Prop) : Ex → St → Prop := Ex.then (wpc (Ev P) a13_k6 (a13_q5 R)) (a13_q5 R)
def a13_q7 (R : Ex → St → Prop) : Ex → St → Prop := Ex.inBlock 2 (a13_q6 R)
def a13_q8 (R : Ex → St → Prop) : Ex → St → Prop := Ex.then (wpc (Ev P) (.loop a13_L2) (a13_q7 R)) (a13_q7 R)
def a13_q9 (R : Ex → St → Prop) : Ex → St → Prop := Ex.then (wpc (Ev P) (.reg a13_r8) (a13_q8 R)) (a13_q8 R)
def a13_q10 (R : Ex → St → Prop) : Ex → St → Prop := Ex.inBlock 3 (a13_q9 R)
def S_ref17_Once (k : Nat) : Prop := ∀ (x0 : (List T_ref17_Coded)) (r : (List T_ref17_Coded)), ref17_Once k x0 = some r → ∀ H, Ev P 13 [(.list (x0.map T_ref17_Coded.enc))] H (.list (r.map T_ref17_Coded.enc)) H
def S_ref17_Once_L1 (k : Nat) : Prop := ∀ (t0 : (List T_ref17_Coded)) (t3 : (List T_ref17_Coded)) (t4 : Int) (r : (List T_ref17_Coded)) (ρ : Nat → Slot) (H : List (Option (List D))) , ref17_Once_L1 k t0 t3 t4 = some r → wpc (Ev P) (.loop a13_L1) (a13_q2 (retN a13.res (.list (r.map T_ref17_Coded.enc)))) ⟨upds ρ [(0, .d (.list (t0.map T_ref17_Coded.enc))), (3, .d (.own 35 (t3.map T_ref17_Coded.enc))), (4, .d (.int .i64 t4))], H⟩
def S_ref17_Once_L2 (k : Nat) : Prop := ∀ (t0 : (List T_ref17_Coded)) (t3 : (List T_ref17_Coded)) (t4 : Int) (t5 : Bool) (t6 : Int) (r : (List T_ref17_Coded)) (ρ : Nat → Slot) (H : List (Option (List D))) , ref17_Once_L2 k t0 t3 t4 t5 t6 = some r → wpc (Ev P) (.loop a13_L2) (a13_q7 (retN a13.res (.list (r.map T_ref17_Coded.enc)))) ⟨upds ρ [(0, .d (.list (t0.map T_ref17_Coded.enc))), (3, .d (.own 35 (t3.map T_ref17_Coded.enc))), (4, .d (.int .i64 t4)), (5, .d (.bool t5)), (6, .d (.int .i64 t6))], H⟩
def S_ref17_Once_J1 (k : Nat) : Prop := ∀ (t0 : (List T_ref17_Coded)) (t3 : (List T_ref17_Coded)) (t4 : Int) (t6 : Int) (t30 : Bool) (r : (List T_ref17_Coded)) (ρ : Nat → Slot) (H : List (Option (List D))) , ref17_Once_J1 k t0 t3 t4 t6 t30 = some r → wpo (Ev P) (a13_r9.drop 12) ((a13_q10 (retN a13.res (.list (r.map T_ref17_Coded.enc)))) .normal) ⟨upds ρ [(0, .d (.list (t0.map T_ref17_Coded.enc))), (3, .d (.own 35 (t3.map T_ref17_Coded.enc))), (4, .d (.int .i64 t4)), (6, .d (.int .i64 t6)), (30, .d (.bool t30))], H⟩
def S_ref17_Once_J2 (k : Nat) : Prop := ∀ (t0 : (List T_ref17_Coded)) (t3 : (List T_ref17_Coded)) (t4 : Int) (r : (List T_ref17_Coded)) (ρ : Nat → Slot) (H : List (Option (List D))) , ref17_Once_J2 k t0 t3 t4 = some r → wpc (Ev P) (.reg a13_r4) (a13_q3 (retN a13.res (.list (r.map T_ref17_Coded.enc)))) ⟨upds ρ [(0, .d (.list (t0.map T_ref17_Coded.enc))), (3, .d (.own 35 (t3.map T_ref17_Coded.enc))), (4, .d (.int .i64 t4))], H⟩
structure C_ref17_Once (k : Nat) : Prop where
  ref17_Once : S_ref17_Once k
  ref17_Once_L1 : S_ref17_Once_L1 k
  ref17_Once_L2 : S_ref17_Once_L2 k
  ref17_Once_J1 : S_ref17_Once_J1 k
  ref17_Once_J2 : S_ref17_Once_J2 k
theorem t_ref17_Once (k : Nat) (ih : C_ref17_Once k) : S_ref17_Once (k + 1) := by
  intro x0 r h H0
  rw [ref17_Once] at h
  refine evc_intro a13 Go.Proofs.Tryd.func13 c13 (Nat.le_of_ble_eq_true rfl) (cl_cons rfl cl_nil) rfl ?_ H0
  generalize ([] : List (Option (List D))) = H
  show wpc (Ev P) a13_B (retN a13.res (.list (r.map T_ref17_Coded.enc))) _
  refine c_seq ?_
  refine c_reg ?_
  refine o_mvk ?_
  refine o_nil ?_
  refine k_then ?_
  refine c_seq ?_
  refine c_reg ?_
  refine o_mvk ?_
  refine o_nil ?_
  refine k_then ?_
  refine c_seq ?_
  refine c_seq ?_
  refine c_reg ?_
  refine o_mvk ?_
  refine o_nil ?_
  refine k_then ?_
  refine c_block ?_
  exact wpc_head (ih.ref17_Once_L1 _ _ _ _ _ _ h) ⟨rfl, rfl, rfl, trivial⟩
theorem t_ref17_Once_L1 (k : Nat) (ih : C_ref17_Once k) : S_ref17_Once_L1 (k + 1) := by
  intro t0 t3 t4 r ρ H h
  rw [ref17_Once_L1] at h
  refine wpc_loop_i ?_
  refine c_seq ?_
  refine c_seq ?_
  refine c_reg ?_
  refine o_mvt rfl (copy_of_int _ _) ?_
  refine o_mvt rfl (copy_of_list _) ?_
  refine o_len_l (vt rfl (copy_of_list _)) (fun _ => ?_)
  refine o_bin (vt rfl (copy_of_int _ _)) (vt rfl (copy_of_int _ _)) bin_lss ?_
  refine o_nil ?_
  refine k_then ?_
  by_cases c1 : (decide (t4 < (t0.length : Int))) = true
  · have h := it_t h c1
    refine c_cond_t (vt rfl (copy_of_bool _)) c1 ?_
    refine c_skip ?_
    refine k_then ?_
    refine c_seq ?_
    refine c_block ?_
    refine c_seq ?_
    refine c_reg ?_
    refine o_mvk ?_
    refine o_nil ?_
    refine k_then ?_
    refine c_seq ?_
    refine c_seq ?_
    refine c_reg ?_
    refine o_mvk ?_
    refine o_nil ?_
    refine k_then ?_
    refine c_block ?_
    exact wpc_head (ih.ref17_Once_L2 _ _ _ _ _ _ _ _ h) ⟨rfl, rfl, rfl, rfl, rfl, trivial⟩
  · have c1 := bf c1
    have h := it_f h c1
    refine c_cond_f (vt rfl (copy_of_bool _)) c1 ?_
    refine c_exit ?_
    refine k_then_exit ?_
    refine k_then_exit ?_
    refine k_block_exit _ ?_
    refine k_then ?_
    refine c_seq ?_
    refine c_reg ?_
    refine o_mvt rfl (copy_of_own _ _) ?_
    refine o_mvt rfl (copy_of_list _) ?_
    refine o_nil ?_
    refine k_then ?_
    refine c_ret ?_
    obtain rfl := Option.some.inj h
    exact r_one rfl (res_t rfl (copy_of_list _)) (.inl rfl)
theorem t_ref17_Once_L2 (k : Nat) (ih : C_ref17_Once k) : S_ref17_Once_L2 (k + 1) := by
  intro t0 t3 t4 t5 t6 r ρ H h
  rw [ref17_Once_L2] at h
  refine wpc_loop_i ?_
  refine c_seq ?_
  refine c_seq ?_
  refine c_reg ?_
  refine o_mvt rfl (copy_of_int _ _) ?_
  refine o_mvt rfl (copy_of_own _ _) ?_
  refine o_len_l (vt rfl (copy_of_list _)) (fun _ => ?_)
  refine o_bin (vt rfl (copy_of_int _ _)) (vt rfl (copy_of_int _ _)) bin_lss ?_
  refine o_nil ?_
  refine k_then ?_
  by_cases c1 : (decide (t6 < (t3.length : Int))) = true
  · have h := it_t h c1
    refine c_cond_t (vt rfl (copy_of_bool _)) c1 ?_
    refine c_skip ?_
    refine k_then ?_
    refine c_seq ?_
    refine c_block ?_
    refine c_reg ?_
    refine o_mvt rfl (copy_of_bool _) ?_
    refine o_mvt rfl (copy_of_bool _) ?_
    by_cases c2 : t5 = true
    · have h := it_t h c2
      refine o_g_f rfl (ne_t c2) ?_
      refine o_g_f rfl (ne_t c2) ?_
      refine o_g_f rfl (ne_t c2) ?_
      refine o_g_f rfl (ne_t c2) ?_
      refine o_g_f rfl (ne_t c2) ?_
      refine o_g_f rfl (ne_t c2) ?_
      refine o_g_f rfl (ne_t c2) ?_
      refine o_g_f rfl (ne_t c2) ?_
      refine o_g_f rfl (ne_t c2) ?_
      refine o_pick_t (vt rfl (copy_of_bool _)) c2 (vk (copy_of_bool _)) ?_
      exact wpo_head (ih.ref17_Once_J1 _ _ _ _ _ _ _ _ h) ⟨rfl, rfl, rfl, rfl, rfl, trivial⟩
    · have c2 := bf c2
      have h := it_f h c2
      refine o_g_t rfl c2 ?_
      refine o_mvt rfl (copy_of_own _ _) ?_
      refine o_g_t rfl c2 ?_
      refine o_mvt rfl (copy_of_int _ _) ?_
      refine o_g_t rfl c2 ?_
      obtain ⟨y23, hy23, h⟩ := bind_some h
      refine o_ias (vt rfl (copy_of_list _)) (vt rfl (copy_of_int _ _)) hy23 (T_ref17_Coded.enc_cells _) (T_ref17_Coded.len lw _) ?_
      refine o_g_t rfl c2 ?_
      refine o_ldI rfl (cut_all (T_ref17_Coded.len _ _)) (T_ref17_Coded.copy wr_l _) ?_
      refine o_g_t rfl c2 ?_
      refine o_mvt rfl (copy_of_list _) ?_
      refine o_g_t rfl c2 ?_
      refine o_mvt rfl (copy_of_int _ _) ?_
      refine o_g_t rfl c2 ?_
      obtain ⟨y27, hy27, h⟩ := bind_some h
      refine o_ias (vt rfl (copy_of_list _)) (vt rfl (copy_of_int _ _)) hy27 (T_ref17_Coded.enc_cells _) (T_ref17_Coded.len lw _) ?_
      refine o_g_t rfl c2 ?_
      refine o_ldI rfl (cut_all (T_ref17_Coded.len _ _)) (T_ref17_Coded.copy wr_l _) ?_
      refine o_g_t rfl c2 ?_
      obtain ⟨y29, hy29, h⟩ := bind_some h
      refine o_callq (g_cons (gt_ rfl (copy_of_agg _)) (g_cons (gt_ rfl (copy_of_agg _)) g_nil)) (s_ref17_Same k _ _ _ hy29 _) ?_
      refine o_pick_f (vt rfl (copy_of_bool _)) c2 (vt rfl (copy_of_bool _)) ?_
      exact wpo_head (ih.ref17_Once_J1 _ _ _ _ _ _ _ _ h) ⟨rfl, rfl, rfl, rfl, rfl, trivial⟩
  · have c1 := bf c1
    have h := it_f h c1
    refine c_cond_f (vt rfl (copy_of_bool _)) c1 ?_
    refine c_exit ?_
    refine k_then_exit ?_
    refine k_then_exit ?_
    refine k_block_exit _ ?_
    refine k_then ?_
    refine c_seq ?_
    refine c_reg ?_
    refine o_mvt rfl (copy_of_bool _) ?_
    refine o_un (vt rfl (copy_of_bool _)) un_not ?_
    refine o_nil ?_
    refine k_then ?_
    by_cases c3 : (!t5) = true
    · have h := it_t h c3
      refine c_cond_t (vt rfl (copy_of_bool _)) c3 ?_
      refine c_reg ?_
      refine o_mvx rfl ?_
      refine o_mvt rfl (copy_of_list _) ?_
      refine o_mvt rfl (copy_of_int _ _) ?_
      obtain ⟨y36, hy36, h⟩ := bind_some h
      refine o_ias (vt rfl (copy_of_list _)) (vt rfl (copy_of_int _ _)) hy36 (T_ref17_Coded.enc_cells _) (T_ref17_Coded.len lw _) ?_
      refine o_ldi rfl (cut_all (T_ref17_Coded.len _ _)) (T_ref17_Coded.copy wr_l _) ?_
      refine o_bsl (f := T_ref17_Coded.enc) (v_cons (vt rfl (copy_of_agg _)) v_nil) (l_cons (T_ref17_Coded.enc_eq _).symm l_nil) T_ref17_Coded.elem ?_
      obtain ⟨c4, h⟩ := need_some h
      refine o_app (f := T_ref17_Coded.enc) (xs := t3) (ys := ([y36])) T_ref17_Coded.elem rfl (vt rfl (copy_of_own _ _)) c4 ?_
      refine o_mvx rfl ?_
      refine o_nil ?_
      refine k_block _ ?_
      refine k_then ?_
      exact wpc_head (ih.ref17_Once_J2 _ _ _ _ _ _ h) ⟨rfl, rfl, rfl, trivial⟩
    · have c3 := bf c3
      have h := it_f h c3
      refine c_cond_f (vt rfl (copy_of_bool _)) c3 ?_
      refine c_skip ?_
      refine k_block _ ?_
      refine k_then ?_
      exact wpc_head (ih.ref17_Once_J2 _ _ _ _ _ _ h) ⟨rfl, rfl, rfl, trivial⟩
theorem t_ref17_Once_J1 (k : Nat) (ih : C_ref17_Once k) : S_ref17_Once_J1 (k + 1) := by
  intro t0 t3 t4 t6 t30 r ρ H h
  rw [ref17_Once_J1] at h
  refine o_mvt rfl (copy_of_bool _) ?_
  refine o_nil ?_
  refine k_block _ ?_
  refine k_then ?_
  refine c_reg ?_
  refine o_mvt rfl (copy_of_int _ _) ?_
  refine o_bin (vt rfl (copy_of_int _ _)) (vk (copy_of_int _ _)) bin_add ?_
  refine o_mvt rfl (copy_of_int _ _) ?_
  refine o_nil ?_
  refine k_then ?_
  exact wpc_head (ih.ref17_Once_L2 _ _ _ _ _ _ _ _ h) ⟨rfl, rfl, rfl, rfl, rfl, trivial⟩
theorem t_ref17_Once_J2 (k : Nat) (ih : C_ref17_Once k) : S_ref17_Once_J2 (k + 1) := by
  intro t0 t3 t4 r ρ H h
  rw [ref17_Once_J2] at h
  refine c_reg ?_
  refine o_mvt rfl (copy_of_int _ _) ?_
  refine o_bin (vt rfl (copy_of_int _ _)) (vk (copy_of_int _ _)) bin_add ?_
  refine o_mvt rfl (copy_of_int _ _) ?_
  refine o_nil ?_
  refine k_then ?_
  exact wpc_head (ih.ref17_Once_L1 _ _ _ _ _ _ h) ⟨rfl, rfl, rfl, trivial⟩
theorem z_ref17_Once : S_ref17_Once 0 := by
  intro x0 r h H
  rw [ref17_Once] at h; cases h
theorem z_ref17_Once_L1 : S_ref17_Once_L1 0 := by
  intro t0 t3 t4 r ρ H h
  rw [ref17_Once_L1] at h; cases h
theorem z_ref17_Once_L2 : S_ref17_Once_L2 0 := by
  intro t0 t3 t4 t5 t6 r ρ H h
  rw [ref17_Once_L2] at h; cases h
theorem z_ref17_Once_J1 : S_ref17_Once_J1 0 := by
  intro t0 t3 t4 t6 t30 r ρ H h
  rw [ref17_Once_J1] at h; cases h
theorem z_ref17_Once_J2 : S_ref17_Once_J2 0 := by
  intro t0 t3 t4 r ρ H h
  rw [ref17_Once_J2] at h; cases h
theorem C_ref17_Once.all : ∀ k, C_ref17_Once k
  | 0 => ⟨z_ref17_Once, z_ref17_Once_L1, z_ref17_Once_L2, z_ref17_Once_J1, z_ref17_Once_J2⟩
  | k + 1 => ⟨t_ref17_Once k (C_ref17_Once.all k), t_ref17_Once_L1 k (C_ref17_Once.all k), t_ref17_Once_L2 k (C_ref17_Once.all k), t_ref17_Once_J1 k (C_ref17_Once.all k), t_ref17_Once_J2 k (C_ref17_Once.all k)⟩
theorem s_ref17_Once (k : Nat) : S_ref17_Once k := (C_ref17_Once.all k).ref17_Once
def a14_r0 : List AI := [
  { dst := some 2, op := .box (.t 0) },
  { dst := some 3, op := .box (.t 1) },
  { dst := some 4, op := .mv (.k (.bool false)) }]
def a14_r1 : List AI := [
  { dst := some 6, op := .fa 2 0 },
  { dst := some 7, op := .ld none 6 },
  { dst := some 8, op := .fa 3 0 },
  { dst := some 9, op := .ld none 8 },
  { dst := some 10, op := .bin .neq (.t 7) (.t 9) },
  { dst := some 11, op := .mv (.t 10) },
  { dst := some 12, g := some (11, false), op := .fa 2 1 },
  { dst := some 13, g := some (11, false), op := .ld none 12 },
  { dst := some 14, g := some (11, false), op := .fa 3 1 },
  { dst := some 15, g := some (11, false), op := .ld none 14 },
  { dst := some 16, g := some (11, false), op := .bin .neq (.t 13) (.t 15) },
  { dst := some 17, op := .pick (.t 11) (.k (.bool true)) (.t 16) },
  { dst := some 18, op := .mv (.t 17) },
  { dst := some 19, g := some (18, false), op := .fa 2 2 },
  { dst := some 20, g := some (18, false), op := .ld (some 256) 19 },
  { dst := some 21, g := some (18, false), op := .fa 3 2 },
  { dst := some 22, g := some (18, false), op := .ld (some 256) 21 },
  { dst := some 23, g := some (18, false), op := .eqv true .bool 256 (.t 20) (.t 22) },
  { dst := some 24, op := .pick (.t 18) (.k (.bool true)) (.t 23) },
  { dst := some 25, op := .mv (.t 24) },
  { dst := some 26, g := some (25, false), op := .fa 2 258 },
  { dst := some 27, g := some (25, false), op := .ld none 26 },
  { dst := some 28, g := some (25, false), op := .len false (.t 27) },
  { dst := some 29, g := some (25, false), op := .fa 3 258 },
  { dst := some 30, g := some (25, false), op := .ld none 29 },
  { dst := some 31, g := some (25, false), op := .len false (.t 30) },
  { dst := some 32, g := some (25, false), op := .bin .neq (.t 28) (.t 31) },
  { dst := some 33, op := .pick (.t 25) (.k (.bool true)) (.t 32) }]
def a14_r2 : List AI := [
  { dst := some 4, op := .mv (.k (.bool false)) }]
def a14_k1 : AC := (.cond (.t 33) (.seq (.reg a14_r2) .ret) .skip)
def a14_r3 : List AI := [
  { dst := some 5, op := .mv (.k (.int .i64 0)) }]
def a14_r4 : List AI := [
  { dst := some 34, op := .mv (.t 5) },
  { dst := some 35, op := .fa 2 258 },
  { dst := some 36, op := .ld none 35 },
  { dst := some 37, op := .len false (.t 36) },
  { dst := some 38, op := .bin .lss (.t 34) (.t 37) }]
def a14_k2 : AC := (.cond (.t 38) .skip (.exit 0))
def a14_r6 : List AI := [
  { dst := some 41, op := .fa 2 258 },
  { dst := some 42, op := .ldv none 41 2 258 },
  { dst := some 43, op := .mv (.t 5) },
  { dst := some 44, op := .ias 259 (.t 42) (.t 43) },
  { dst := some 45, op := .ldi (some 259) 44 },
  { dst := some 46, op := .fa 3 258 },
  { dst := some 47, op := .ldv none 46 3 258 },
  { dst := some 48, op := .mv (.t 5) },
  { dst := some 49, op := .ias 259 (.t 47) (.t 48) },
  { dst := some 50, op := .ldi (some 259) 49 },
  { dst := some 51, op := .callQ 14 [(.t 45), (.t 50)] },
  { dst := some 52, op := .un .not (.t 51) }]
def a14_r7 : List AI := [
  { dst := some 4, op := .mv (.k (.bool false)) }]
def a14_k3 : AC := (.cond (.t 52) (.seq (.reg a14_r7) .ret) .skip)
def a14_r5 : List AI := [
  { dst := some 39, op := .mv (.t 5) },
  { dst := some 40, op := .bin .add (.t 39) (.k (.int .i64 1)) },
  { dst := some 5, op := .mv (.t 40) }]
def a14_k4 : AC := (.seq (.block 1 (.seq (.reg a14_r6) a14_k3)) (.reg a14_r5))
def a14_L1 : AC := (.seq (.seq (.reg a14_r4) a14_k2) a14_k4)
def a14_k5 : AC := (.block 0 (.loop a14_L1))
def a14_r8 : List AI := [
  { dst := some 4, op := .mv (.k (.bool true)) }]
def a14_k6 : AC := (.seq (.reg a14_r8) .ret)
def a14_k7 : AC := (.seq (.seq (.reg a14_r3) a14_k5) a14_k6)
def a14_k8 : AC := (.seq (.seq (.reg a14_r1) a14_k1) a14_k7)
def a14_B : AC := (.seq (.reg a14_r0) a14_k8)
/-- catchpole/catchpoleref17.Alike -/
def a14 : AF := { N := 53, V := [2, 3], body := a14_B, res := [.t 4] }
theorem c14 : chkF P a14 Go.Proofs.Tryd.f14 = true := by kernel_rfl
mutual
/-- catchpole/catchpoleref17.Alike -/
def ref17_Alike (k : Nat) (x0 : T_ref17_Coded) (x1 : T_ref17_Coded) : Option Bool := match k with
  | 0 => none
  | k + 1 =>
    if ((((x0.Kind != x1.Kind) || (!(x0.Bits == x1.Bits))) || (!(x0.Set == x1.Set))) || ((x0.L.length : Int) != (x1.L.length : Int))) = true then (some false)
    else ref17_Alike_L1 k x0 x1 0
def ref17_Alike_L1 (k : Nat) (v2 : T_ref17_Coded) (v3 : T_ref17_Coded) (t5 : Int) : Option Bool := match k with
  | 0 => none
  | k + 1 =>
    if (decide (t5 < (v2.L.length : Int))) = true then ((at_ v2.L t5).bind fun y44 =>
    (at_ v3.L t5).bind fun y49 =>
    (ref17_Alike k y44 y49).bind fun y51 =>
    if (!y51) = true then (some false)
    else ref17_Alike_L1 k v2 v3 (IntKind.i64.wrap (t5 + 1)))
    else some true
end
def a14_q1 (R : Ex → St → Prop) : Ex → St → Prop := Ex.then (wpc (Ev P) a14_k7 R) R
def a14_q2 (R : Ex → St → Prop) : Ex → St → Prop := Ex.then (wpc (Ev P) a14_k1 (a14_q1 R)) (a14_q1 R)
def a14_q3 (R : Ex → St → Prop) : Ex → St → Prop := Ex.then (wpc (Ev P) a14_k6 R) R
def a14_q4 (R : Ex → St → Prop) : Ex → St → Prop := Ex.inBlock 0 (a14_q3 R)
def S_ref17_Alike (k : Nat) : Prop := ∀ (x0 : T_ref17_Coded) (x1 : T_ref17_Coded) (r : Bool), ref17_Alike k x0 x1 = some r → ∀ H, Ev P 14 [(.agg (T_ref17_Coded.cells lw x0)), (.agg (T_ref17_Coded.cells lw x1))] H (.bool r) H
def S_ref17_Alike_L1 (k : Nat) : Prop := ∀ (v2 : T_ref17_Coded) (v3 : T_ref17_Coded) (t5 : Int) (r : Bool) (ρ : Nat → Slot) (H : List (Option (List D))) , ref17_Alike_L1 k v2 v3 t5 = some r → wpc (Ev P) (.loop a14_L1) (a14_q4 (retN a14.res (.bool r))) ⟨upds ρ [(2, .var (T_ref17_Coded.cells lw v2)), (3, .var (T_ref17_Coded.cells lw v3)), (5, .d (.int .i64 t5))], H⟩
structure C_ref17_Alike (k : Nat) : Prop where
  ref17_Alike : S_ref17_Alike k
  ref17_Alike_L1 : S_ref17_Alike_L1 k
theorem t_ref17_Alike (k : Nat) (ih : C_ref17_Alike k) : S_ref17_Alike (k + 1) := by
  intro x0 x1 r h H0
  rw [ref17_Alike] at h
  refine evc_intro a14 Go.Proofs.Tryd.func14 c14 (Nat.le_of_ble_eq_true rfl) (cl_cons (T_ref17_Coded.closed _) (cl_cons (T_ref17_Coded.closed _) cl_nil)) rfl ?_ H0
  generalize ([] : List (Option (List D))) = H
  show wpc (Ev P) a14_B (retN a14.res (.bool r)) _
  refine c_seq ?_
  refine c_reg ?_
  refine o_box (vt rfl (copy_of_agg _)) (T_ref17_Coded.one wr_l _) (T_ref17_Coded.copy wr_l _) ?_
  refine o_box (vt rfl (copy_of_agg _)) (T_ref17_Coded.one wr_l _) (T_ref17_Coded.copy wr_l _) ?_
  refine o_mvk ?_
  refine o_nil ?_
  refine k_then ?_
  refine c_seq ?_
  refine c_seq ?_
  refine c_reg ?_
  refine o_fa (lv_v rfl) ?_
  refine o_ld1 (lv_l rfl) rfl (T_ref17_Coded.cut_Kind lw _) (copy_of_int _ _) ?_
  refine o_fa (lv_v rfl) ?_
  refine o_ld1 (lv_l rfl) rfl (T_ref17_Coded.cut_Kind lw _) (copy_of_int _ _) ?_
  refine o_bin (vt rfl (copy_of_int _ _)) (vt rfl (copy_of_int _ _)) bin_neq ?_
  refine o_mvt rfl (copy_of_bool _) ?_
  have key1 : ∀ ρ : Nat → Slot, wpo (Ev P) (a14_r1.drop 12) ((a14_q2 (retN a14.res (.bool r))) .normal) ⟨upds ρ [(2, .var (T_ref17_Coded.cells lw x0)), (3, .var (T_ref17_Coded.cells lw x1)), (17, .d (.bool ((x0.Kind != x1.Kind) || (!(x0.Bits == x1.Bits)))))], H⟩ := by
    intro ρ
    refine o_mvt rfl (copy_of_bool _) ?_
    have key3 : ∀ ρ : Nat → Slot, wpo (Ev P) (a14_r1.drop 19) ((a14_q2 (retN a14.res (.bool r))) .normal) ⟨upds ρ [(2, .var (T_ref17_Coded.cells lw x0)), (3, .var (T_ref17_Coded.cells lw x1)), (24, .d (.bool (((x0.Kind != x1.Kind) || (!(x0.Bits == x1.Bits))) || (!(x0.Set == x1.Set)))))], H⟩ := by
      intro ρ
      refine o_mvt rfl (copy_of_bool _) ?_
      have key5 : ∀ ρ : Nat → Slot, wpo (Ev P) (a14_r1.drop 28) ((a14_q2 (retN a14.res (.bool r))) .normal) ⟨upds ρ [(2, .var (T_ref17_Coded.cells lw x0)), (3, .var (T_ref17_Coded.cells lw x1)), (33, .d (.bool ((((x0.Kind != x1.Kind) || (!(x0.Bits == x1.Bits))) || (!(x0.Set == x1.Set))) || ((x0.L.length : Int) != (x1.L.length : Int)))))], H⟩ := by
        intro ρ
        refine o_nil ?_
        refine k_then ?_
        by_cases c7 : ((((x0.Kind != x1.Kind) || (!(x0.Bits == x1.Bits))) || (!(x0.Set == x1.Set))) || ((x0.L.length : Int) != (x1.L.length : Int))) = true
        · have h := it_t h c7
          refine c_cond_t (vt rfl (copy_of_bool _)) c7 ?_
          refine c_seq ?_
          refine c_reg ?_
          refine o_mvk ?_
          refine o_nil ?_
          refine k_then ?_
          refine c_ret ?_
          refine k_then_ret ?_
          obtain rfl := Option.some.inj h
          exact r_one rfl (res_t rfl (copy_of_bool _)) (.inl rfl)
        · have c7 := bf c7
          have h := it_f h c7
          refine c_cond_f (vt rfl (copy_of_bool _)) c7 ?_
          refine c_skip ?_
          refine k_then ?_
          refine c_seq ?_
          refine c_seq ?_
          refine c_reg ?_
          refine o_mvk ?_
          refine o_nil ?_
          refine k_then ?_
          refine c_block ?_
          exact wpc_head (ih.ref17_Alike_L1 _ _ _ _ _ _ h) ⟨rfl, rfl, rfl, trivial⟩
      by_cases c6 : (((x0.Kind != x1.Kind) || (!(x0.Bits == x1.Bits))) || (!(x0.Set == x1.Set))) = true
      · clear h
        refine o_g_f rfl (ne_t c6) ?_
        refine o_g_f rfl (ne_t c6) ?_
        refine o_g_f rfl (ne_t c6) ?_
        refine o_g_f rfl (ne_t c6) ?_
        refine o_g_f rfl (ne_t c6) ?_
        refine o_g_f rfl (ne_t c6) ?_
        refine o_g_f rfl (ne_t c6) ?_
        refine o_pick_t (vt rfl (copy_of_bool _)) c6 (vk (copy_of_bool _)) ?_
        exact wpo_head (key5 _) ⟨rfl, rfl, (by simp only [c6]; rfl), trivial⟩
      · clear h
        have c6 := bf c6
        refine o_g_t rfl c6 ?_
        refine o_fa (lv_v rfl) ?_
        refine o_g_t rfl c6 ?_
        refine o_ld1 (lv_l rfl) rfl (T_ref17_Coded.cut_L lw _) (Wr.copy wr_l _ _) ?_
        refine o_g_t rfl c6 ?_
        refine o_len_l (vt rfl (copy_of_list _)) (fun _ => ?_)
        refine o_g_t rfl c6 ?_
        refine o_fa (lv_v rfl) ?_
        refine o_g_t rfl c6 ?_
        refine o_ld1 (lv_l rfl) rfl (T_ref17_Coded.cut_L lw _) (Wr.copy wr_l _ _) ?_
        refine o_g_t rfl c6 ?_
        refine o_len_l (vt rfl (copy_of_list _)) (fun _ => ?_)
        refine o_g_t rfl c6 ?_
        refine o_bin (vt rfl (copy_of_int _ _)) (vt rfl (copy_of_int _ _)) bin_neq ?_
        refine o_pick_f (vt rfl (copy_of_bool _)) c6 (vt rfl (copy_of_bool _)) ?_
        exact wpo_head (key5 _) ⟨rfl, rfl, (by simp only [c6]; rfl), trivial⟩
    by_cases c4 : ((x0.Kind != x1.Kind) || (!(x0.Bits == x1.Bits))) = true
    · clear h
      refine o_g_f rfl (ne_t c4) ?_
      refine o_g_f rfl (ne_t c4) ?_
      refine o_g_f rfl (ne_t c4) ?_
      refine o_g_f rfl (ne_t c4) ?_
      refine o_g_f rfl (ne_t c4) ?_
      refine o_pick_t (vt rfl (copy_of_bool _)) c4 (vk (copy_of_bool _)) ?_
      exact wpo_head (key3 _) ⟨rfl, rfl, (by simp only [c4]; rfl), trivial⟩
    · clear h
      have c4 := bf c4
      refine o_g_t rfl c4 ?_
      refine o_fa (lv_v rfl) ?_
      refine o_g_t rfl c4 ?_
      refine o_ld (lv_l rfl) rfl (T_ref17_Coded.cut_Set lw _) cm_bool ?_
      refine o_g_t rfl c4 ?_
      refine o_fa (lv_v rfl) ?_
      refine o_g_t rfl c4 ?_
      refine o_ld (lv_l rfl) rfl (T_ref17_Coded.cut_Set lw _) cm_bool ?_
      refine o_g_t rfl c4 ?_
      refine o_nev (vt rfl (copy_of_agg _)) (vt rfl (copy_of_agg _)) deq_arr_bool ?_
      refine o_pick_f (vt rfl (copy_of_bool _)) c4 (vt rfl (copy_of_bool _)) ?_
      exact wpo_head (key3 _) ⟨rfl, rfl, (by simp only [c4]; rfl), trivial⟩
  by_cases c2 : (x0.Kind != x1.Kind) = true
  · clear h
    refine o_g_f rfl (ne_t c2) ?_
    refine o_g_f rfl (ne_t c2) ?_
    refine o_g_f rfl (ne_t c2) ?_
    refine o_g_f rfl (ne_t c2) ?_
    refine o_g_f rfl (ne_t c2) ?_
    refine o_pick_t (vt rfl (copy_of_bool _)) c2 (vk (copy_of_bool _)) ?_
    exact wpo_head (key1 _) ⟨rfl, rfl, (by simp only [c2]; rfl), trivial⟩
  · clear h
    have c2 := bf c2
    refine o_g_t rfl c2 ?_
    refine o_fa (lv_v rfl) ?_
    refine o_g_t rfl c2 ?_
    refine o_ld1 (lv_l rfl) rfl (T_ref17_Coded.cut_Bits lw _) (copy_of_str _) ?_
    refine o_g_t rfl c2 ?_
    refine o_fa (lv_v rfl) ?_
    refine o_g_t rfl c2 ?_
    refine o_ld1 (lv_l rfl) rfl (T_ref17_Coded.cut_Bits lw _) (copy_of_str _) ?_
    refine o_g_t rfl c2 ?_
    refine o_bin (vt rfl (copy_of_str _)) (vt rfl (copy_of_str _)) bin_sneq ?_
    refine o_pick_f (vt rfl (copy_of_bool _)) c2 (vt rfl (copy_of_bool _)) ?_
    exact wpo_head (key1 _) ⟨rfl, rfl, (by simp only [c2]; rfl), trivial⟩
theorem t_ref17_Alike_L1 (k : Nat) (ih : C_ref17_Alike k) : S_ref17_Alike_L1 (k + 1) := by
  intro v2 v3 t5 r ρ H h
  rw [ref17_Alike_L1] at h
  refine wpc_loop_i ?_
  refine c_seq ?_
  refine c_seq ?_
  refine c_reg ?_
  refine o_mvt rfl (copy_of_int _ _) ?_
  refine o_fa (lv_v rfl) ?_
  refine o_ld1 (lv_l rfl) rfl (T_ref17_Coded.cut_L lw _) (Wr.copy wr_l _ _) ?_
  refine o_len_l (vt rfl (copy_of_list _)) (fun _ => ?_)
  refine o_bin (vt rfl (copy_of_int _ _)) (vt rfl (copy_of_int _ _)) bin_lss ?_
  refine o_nil ?_
  refine k_then ?_
  by_cases c1 : (decide (t5 < (v2.L.length : Int))) = true
  · have h := it_t h c1
    refine c_cond_t (vt rfl (copy_of_bool _)) c1 ?_
    refine c_skip ?_
    refine k_then ?_
    refine c_seq ?_
    refine c_block ?_
    refine c_seq ?_
    refine c_reg ?_
    refine o_fa (lv_v rfl) ?_
    refine o_ldv1 (lv_l rfl) rfl (T_ref17_Coded.cut_L lw _) (Wr.copy wr_l _ _) ?_
    refine o_mvt rfl (copy_of_int _ _) ?_
    obtain ⟨y44, hy44, h⟩ := bind_some h
    refine o_ias (vt rfl (copy_of_list _)) (vt rfl (copy_of_int _ _)) hy44 (T_ref17_Coded.enc_cells _) (T_ref17_Coded.len lw _) ?_
    refine o_ldI rfl (cut_all (T_ref17_Coded.len _ _)) (T_ref17_Coded.copy wr_l _) ?_
    refine o_fa (lv_v rfl) ?_
    refine o_ldv1 (lv_l rfl) rfl (T_ref17_Coded.cut_L lw _) (Wr.copy wr_l _ _) ?_
    refine o_mvt rfl (copy_of_int _ _) ?_
    obtain ⟨y49, hy49, h⟩ := bind_some h
    refine o_ias (vt rfl (copy_of_list _)) (vt rfl (copy_of_int _ _)) hy49 (T_ref17_Coded.enc_cells _) (T_ref17_Coded.len lw _) ?_
    refine o_ldI rfl (cut_all (T_ref17_Coded.len _ _)) (T_ref17_Coded.copy wr_l _) ?_
    obtain ⟨y51, hy51, h⟩ := bind_some h
    refine o_callq (g_cons (gt_ rfl (copy_of_agg _)) (g_cons (gt_ rfl (copy_of_agg _)) g_nil)) (ih.ref17_Alike _ _ _ hy51 _) ?_
    refine o_un (vt rfl (copy_of_bool _)) un_not ?_
    refine o_nil ?_
    refine k_then ?_
    by_cases c2 : (!y51) = true
    · have h := it_t h c2
      refine c_cond_t (vt rfl (copy_of_bool _)) c2 ?_
      refine c_seq ?_
      refine c_reg ?_
      refine o_mvk ?_
      refine o_nil ?_
      refine k_then ?_
      refine c_ret ?_
      refine k_block_ret ?_
      refine k_then_ret ?_
      refine k_then_ret ?_
      refine k_block_ret ?_
      refine k_then_ret ?_
      obtain rfl := Option.some.inj h
      exact r_one rfl (res_t rfl (copy_of_bool _)) (.inl rfl)
    · have c2 := bf c2
      have h := it_f h c2
      refine c_cond_f (vt rfl (copy_of_bool _)) c2 ?_
      refine c_skip ?_
      refine k_block _ ?_
      refine k_then ?_
      refine c_reg ?_
      refine o_mvt rfl (copy_of_int _ _) ?_
      refine o_bin (vt rfl (copy_of_int _ _)) (vk (copy_of_int _ _)) bin_add ?_
      refine o_mvt rfl (copy_of_int _ _) ?_
      refine o_nil ?_
      refine k_then ?_
      exact wpc_head (ih.ref17_Alike_L1 _ _ _ _ _ _ h) ⟨rfl, rfl, rfl, trivial⟩
  · have c1 := bf c1
    have h := it_f h c1
    refine c_cond_f (vt rfl (copy_of_bool _)) c1 ?_
    refine c_exit ?_
    refine k_then_exit ?_
    refine k_then_exit ?_
    refine k_block_exit _ ?_
    refine k_then ?_
    refine c_seq ?_
    refine c_reg ?_
    refine o_mvk ?_
    refine o_nil ?_
    refine k_then ?_
    refine c_ret ?_
    obtain rfl := Option.some.inj h
    exact r_one rfl (res_t rfl (copy_of_bool _)) (.inl rfl)
theorem z_ref17_Alike : S_ref17_Alike 0 := by
  intro x0 x1 r h H
  rw [ref17_Alike] at h; cases h
theorem z_ref17_Alike_L1 : S_ref17_Alike_L1 0 := by
  intro v2 v3 t5 r ρ H h
  rw [ref17_Alike_L1] at h; cases h
theorem C_ref17_Alike.all : ∀ k, C_ref17_Alike k
  | 0 => ⟨z_ref17_Alike, z_ref17_Alike_L1⟩
  | k + 1 => ⟨t_ref17_Alike k (C_ref17_Alike.all k), t_ref17_Alike_L1 k (C_ref17_Alike.all k)⟩
theorem s_ref17_Alike (k : Nat) : S_ref17_Alike k := (C_ref17_Alike.all k).ref17_Alike
def a64_r0 : List AI := [
  { dst := some 2, op := .box (.t 0) },
  { dst := some 4, op := .mv (.k (.int .i64 0)) }]
def a64_r1 : List AI := [
  { dst := some 5, op := .mv (.k (.int .i64 1)) }]
def a64_r2 : List AI := [
  { dst := some 6, op := .mv (.k (.int .i64 0)) }]
def a64_r3 : List AI := [
  { dst := some 7, op := .mv (.t 6) },
  { dst := some 8, op := .fa 2 258 },
  { dst := some 9, op := .ld none 8 },
  { dst := some 10, op := .len false (.t 9) },
  { dst := some 11, op := .bin .lss (.t 7) (.t 10) },
  { dst := some 12, op := .mv (.t 11) },
  { dst := some 13, g := some (12, true), op := .mv (.t 5) },
  { dst := some 14, g := some (12, true), op := .mv (.t 1) },
  { dst := some 15, g := some (12, true), op := .bin .leq (.t 13) (.t 14) },
  { dst := some 16, op := .pick (.t 12) (.t 15) (.k (.bool false)) }]
def a64_k1 : AC := (.cond (.t 16) .skip (.exit 0))
def a64_r5 : List AI := [
  { dst := some 19, op := .mv (.t 5) },
  { dst := some 20, op := .fa 2 258 },
  { dst := some 21, op := .ld none 20 },
  { dst := some 22, op := .mv (.t 6) },
  { dst := some 23, op := .ias 259 (.t 21) (.t 22) },
  { dst := some 24, op := .ld (some 259) 23 },
  { dst := some 25, op := .mv (.t 1) },
  { dst := some 26, op := .mv (.t 5) },
  { dst := some 27, op := .bin .sub (.t 25) (.t 26) },
  { dst := some 28, op := .call 64 [(.t 24), (.t 27)] },
  { dst := some 29, op := .bin .add (.t 19) (.t 28) },
  { dst := some 5, op := .mv (.t 29) }]
def a64_r4 : List AI := [
  { dst := some 17, op := .mv (.t 6) },
  { dst := some 18, op := .bin .add (.t 17) (.k (.int .i64 1)) },
  { dst := some 6, op := .mv (.t 18) }]
def a64_k2 : AC := (.seq (.block 1 (.reg a64_r5)) (.reg a64_r4))
def a64_L1 : AC := (.seq (.seq (.reg a64_r3) a64_k1) a64_k2)
def a64_k3 : AC := (.block 0 (.loop a64_L1))
def a64_r6 : List AI := [
  { dst := some 30, op := .mv (.t 5) },
  { dst := some 31, op := .mv (.t 1) },
  { dst := some 32, op := .bin .gtr (.t 30) (.t 31) }]
def a64_r7 : List AI := [
  { dst := some 33, op := .mv (.t 1) },
  { dst := some 4, op := .mv (.t 33) }]
def a64_k4 : AC := (.cond (.t 32) (.seq (.reg a64_r7) .ret) .skip)
def a64_r8 : List AI := [
  { dst := some 34, op := .mv (.t 5) },
  { dst := some 4, op := .mv (.t 34) }]
def a64_k5 : AC := (.seq (.reg a64_r8) .ret)
def a64_k6 : AC := (.seq (.seq (.reg a64_r6) a64_k4) a64_k5)
def a64_k7 : AC := (.seq (.seq (.reg a64_r2) a64_k3) a64_k6)
def a64_k8 : AC := (.seq (.reg a64_r1) a64_k7)
def a64_B : AC := (.seq (.reg a64_r0) a64_k8)
/-- catchpole/catchpoleref17.Size -/
def a64 : AF := { N := 35, V := [2], body := a64_B, res := [.t 4] }
theorem c64 : chkF P a64 Go.Proofs.Tryd.f64 = true := by kernel_rfl
mutual
/-- catchpole/catchpoleref17.Size -/
def ref17_Size (k : Nat) (x0 : T_ref17_Coded) (x1 : Int) : Option Int := match k with
  | 0 => none
  | k + 1 =>
    ref17_Size_L1 k x1 x0 1 0
def ref17_Size_L1 (k : Nat) (t1 : Int) (v2 : T_ref17_Coded) (t5 : Int) (t6 : Int) : Option Int := match k with
  | 0 => none
  | k + 1 =>
    if ((decide (t6 < (v2.L.length : Int))) && (decide (t5 ≤ t1))) = true then ((at_ v2.L t6).bind fun y23 =>
    (ref17_Size k y23 (IntKind.i64.wrap (t1 - t5))).bind fun y28 =>
    ref17_Size_L1 k t1 v2 (IntKind.i64.wrap (t5 + y28)) (IntKind.i64.wrap (t6 + 1)))
    else if (decide (t5 > t1)) = true then (some t1)
    else some t5
end
def a64_q1 (R : Ex → St → Prop) : Ex → St → Prop := Ex.then (wpc (Ev P) a64_k6 R) R
def a64_q2 (R : Ex → St → Prop) : Ex → St → Prop := Ex.inBlock 0 (a64_q1 R)
def a64_q3 (R : Ex → St → Prop) : Ex → St → Prop := Ex.then (wpc (Ev P) (.loop a64_L1) (a64_q2 R)) (a64_q2 R)
def a64_q4 (R : Ex → St → Prop) : Ex → St → Prop := Ex.then (wpc (Ev P) a64_k2 (a64_q3 R)) (a64_q3 R)
def a64_q5 (R : Ex → St → Prop) : Ex → St → Prop := Ex.then (wpc (Ev P) a64_k1 (a64_q4 R)) (a64_q4 R)
def S_ref17_Size (k : Nat) : Prop := ∀ (x0 : T_ref17_Coded) (x1 : Int) (r : Int), ref17_Size k x0 x1 = some r → ∀ H, Ev P 64 [(.agg (T_ref17_Coded.cells lw x0)), (.int .i64 x1)] H (.int .i64 r) H
def S_ref17_Size_L1 (k : Nat) : Prop := ∀ (t1 : Int) (v2 : T_ref17_Coded) (t5 : Int) (t6 : Int) (r : Int) (ρ : Nat → Slot) (H : List (Option (List D))) , ref17_Size_L1 k t1 v2 t5 t6 = some r → wpc (Ev P) (.loop a64_L1) (a64_q2 (retN a64.res (.int .i64 r))) ⟨upds ρ [(1, .d (.int .i64 t1)), (2, .var (T_ref17_Coded.cells lw v2)), (5, .d (.int .i64 t5)), (6, .d (.int .i64 t6))], H⟩
structure C_ref17_Size (k : Nat) : Prop where
  ref17_Size : S_ref17_Size k
  ref17_Size_L1 : S_ref17_Size_L1 k
theorem t_ref17_Size (k : Nat) (ih : C_ref17_Size k) : S_ref17_Size (k + 1) := by
  intro x0 x1 r h H0
  rw [ref17_Size] at h
  refine evc_intro a64 Go.Proofs.Tryd.func64 c64 (Nat.le_of_ble_eq_true rfl) (cl_cons (T_ref17_Coded.closed _) (cl_cons rfl cl_nil)) rfl ?_ H0
  generalize ([] : List (Option (List D))) = H
  show wpc (Ev P) a64_B (retN a64.res (.int .i64 r)) _
  refine c_seq ?_
  refine c_reg ?_
  refine o_box (vt rfl (copy_of_agg _)) (T_ref17_Coded.one wr_l _) (T_ref17_Coded.copy wr_l _) ?_
  refine o_mvk ?_
  refine o_nil ?_
  refine k_then ?_
  refine c_seq ?_
  refine c_reg ?_
  refine o_mvk ?_
  refine o_nil ?_
  refine k_then ?_
  refine c_seq ?_
  refine c_seq ?_
  refine c_reg ?_
  refine o_mvk ?_
  refine o_nil ?_
  refine k_then ?_
  refine c_block ?_
  exact wpc_head (ih.ref17_Size_L1 _ _ _ _ _ _ _ h) ⟨rfl, rfl, rfl, rfl, trivial⟩
theorem t_ref17_Size_L1 (k : Nat) (ih : C_ref17_Size k) : S_ref17_Size_L1 (k + 1) := by
  intro t1 v2 t5 t6 r ρ H h
  rw [ref17_Size_L1] at h
  refine wpc_loop_i ?_
  refine c_seq ?_
  refine c_seq ?_
  refine c_reg ?_
  refine o_mvt rfl (copy_of_int _ _) ?_
  refine o_fa (lv_v rfl) ?_
  refine o_ld1 (lv_l rfl) rfl (T_ref17_Coded.cut_L lw _) (Wr.copy wr_l _ _) ?_
  refine o_len_l (vt rfl (copy_of_list _)) (fun _ => ?_)
  refine o_bin (vt rfl (copy_of_int _ _)) (vt rfl (copy_of_int _ _)) bin_lss ?_
  refine o_mvt rfl (copy_of_bool _) ?_
  have key1 : ∀ ρ : Nat → Slot, wpo (Ev P) (a64_r3.drop 10) ((a64_q5 (retN a64.res (.int .i64 r))) .normal) ⟨upds ρ [(1, .d (.int .i64 t1)), (2, .var (T_ref17_Coded.cells lw v2)), (5, .d (.int .i64 t5)), (6, .d (.int .i64 t6)), (16, .d (.bool ((decide (t6 < (v2.L.length : Int))) && (decide (t5 ≤ t1)))))], H⟩ := by
    intro ρ
    refine o_nil ?_
    refine k_then ?_
    by_cases c3 : ((decide (t6 < (v2.L.length : Int))) && (decide (t5 ≤ t1))) = true
    · have h := it_t h c3
      refine c_cond_t (vt rfl (copy_of_bool _)) c3 ?_
      refine c_skip ?_
      refine k_then ?_
      refine c_seq ?_
      refine c_block ?_
      refine c_reg ?_
      refine o_mvt rfl (copy_of_int _ _) ?_
      refine o_fa (lv_v rfl) ?_
      refine o_ld1 (lv_l rfl) rfl (T_ref17_Coded.cut_L lw _) (Wr.copy wr_l _ _) ?_
      refine o_mvt rfl (copy_of_int _ _) ?_
      obtain ⟨y23, hy23, h⟩ := bind_some h
      refine o_ias (vt rfl (copy_of_list _)) (vt rfl (copy_of_int _ _)) hy23 (T_ref17_Coded.enc_cells _) (T_ref17_Coded.len lw _) ?_
      refine o_ldi rfl (cut_all (T_ref17_Coded.len _ _)) (T_ref17_Coded.copy wr_l _) ?_
      refine o_mvt rfl (copy_of_int _ _) ?_
      refine o_mvt rfl (copy_of_int _ _) ?_
      refine o_bin (vt rfl (copy_of_int _ _)) (vt rfl (copy_of_int _ _)) bin_sub ?_
      obtain ⟨y28, hy28, h⟩ := bind_some h
      refine o_call rfl (g_cons (gt_ rfl (copy_of_agg _)) (g_cons (gt_ rfl (copy_of_int _ _)) g_nil)) (ih.ref17_Size _ _ _ hy28 _) ?_
      refine o_bin (vt rfl (copy_of_int _ _)) (vt rfl (copy_of_int _ _)) bin_add ?_
      refine o_mvt rfl (copy_of_int _ _) ?_
      refine o_nil ?_
      refine k_block _ ?_
      refine k_then ?_
      refine c_reg ?_
      refine o_mvt rfl (copy_of_int _ _) ?_
      refine o_bin (vt rfl (copy_of_int _ _)) (vk (copy_of_int _ _)) bin_add ?_
      refine o_mvt rfl (copy_of_int _ _) ?_
      refine o_nil ?_
      refine k_then ?_
      exact wpc_head (ih.ref17_Size_L1 _ _ _ _ _ _ _ h) ⟨rfl, rfl, rfl, rfl, trivial⟩
    · have c3 := bf c3
      have h := it_f h c3
      refine c_cond_f (vt rfl (copy_of_bool _)) c3 ?_
      refine c_exit ?_
      refine k_then_exit ?_
      refine k_then_exit ?_
      refine k_block_exit _ ?_
      refine k_then ?_
      refine c_seq ?_
      refine c_seq ?_
      refine c_reg ?_
      refine o_mvt rfl (copy_of_int _ _) ?_
      refine o_mvt rfl (copy_of_int _ _) ?_
      refine o_bin (vt rfl (copy_of_int _ _)) (vt rfl (copy_of_int _ _)) bin_gtr ?_
      refine o_nil ?_
      refine k_then ?_
      by_cases c4 : (decide (t5 > t1)) = true
      · have h := it_t h c4
        refine c_cond_t (vt rfl (copy_of_bool _)) c4 ?_
        refine c_seq ?_
        refine c_reg ?_
        refine o_mvt rfl (copy_of_int _ _) ?_
        refine o_mvt rfl (copy_of_int _ _) ?_
        refine o_nil ?_
        refine k_then ?_
        refine c_ret ?_
        refine k_then_ret ?_
        obtain rfl := Option.some.inj h
        exact r_one rfl (res_t rfl (copy_of_int _ _)) (.inl rfl)
      · have c4 := bf c4
        have h := it_f h c4
        refine c_cond_f (vt rfl (copy_of_bool _)) c4 ?_
        refine c_skip ?_
        refine k_then ?_
        refine c_seq ?_
        refine c_reg ?_
        refine o_mvt rfl (copy_of_int _ _) ?_
        refine o_mvt rfl (copy_of_int _ _) ?_
        refine o_nil ?_
        refine k_then ?_
        refine c_ret ?_
        obtain rfl := Option.some.inj h
        exact r_one rfl (res_t rfl (copy_of_int _ _)) (.inl rfl)
  by_cases c2 : (decide (t6 < (v2.L.length : Int))) = true
  · clear h
    refine o_g_t rfl c2 ?_
    refine o_mvt rfl (copy_of_int _ _) ?_
    refine o_g_t rfl c2 ?_
    refine o_mvt rfl (copy_of_int _ _) ?_
    refine o_g_t rfl c2 ?_
    refine o_bin (vt rfl (copy_of_int _ _)) (vt rfl (copy_of_int _ _)) bin_leq ?_
    refine o_pick_t (vt rfl (copy_of_bool _)) c2 (vt rfl (copy_of_bool _)) ?_
    exact wpo_head (key1 _) ⟨rfl, rfl, rfl, rfl, (by simp only [c2]; rfl), trivial⟩
  · clear h
    have c2 := bf c2
    refine o_g_f rfl (ne_f c2) ?_
    refine o_g_f rfl (ne_f c2) ?_
    refine o_g_f rfl (ne_f c2) ?_
    refine o_pick_f (vt rfl (copy_of_bool _)) c2 (vk (copy_of_bool _)) ?_
    exact wpo_head (key1 _) ⟨rfl, rfl, rfl, rfl, (by simp only [c2]; rfl), trivial⟩
theorem z_ref17_Size : S_ref17_Size 0 := by
  intro x0 x1 r h H
  rw [ref17_Size] at h; cases h
theorem z_ref17_Size_L1 : S_ref17_Size_L1 0 := by
  intro t1 v2 t5 t6 r ρ H h
  rw [ref17_Size_L1] at h; cases h
theorem C_ref17_Size.all : ∀ k, C_ref17_Size k
  | 0 => ⟨z_ref17_Size, z_ref17_Size_L1⟩
  | k + 1 => ⟨t_ref17_Size k (C_ref17_Size.all k), t_ref17_Size_L1 k (C_ref17_Size.all k)⟩
theorem s_ref17_Size (k : Nat) : S_ref17_Size k := (C_ref17_Size.all k).ref17_Size
def a65_r0 : List AI := [
  { dst := some 2, op := .box (.t 0) },
  { dst := some 4, op := .mv (.k (.int .i64 0)) }]
def a65_r1 : List AI := [
  { dst := some 8, op := .mv (.t 1) },
  { dst := some 9, op := .bin .leq (.t 8) (.k (.int .i64 0)) }]
def a65_r2 : List AI := [
  { dst := some 4, op := .mv (.k (.int .i64 1)) }]
def a65_k1 : AC := (.cond (.t 9) (.seq (.reg a65_r2) .ret) .skip)
def a65_r3 : List AI := [
  { dst := some 5, op := .mv (.k (.int .i64 0)) }]
def a65_r4 : List AI := [
  { dst := some 6, op := .mv (.k (.int .i64 0)) }]
def a65_r5 : List AI := [
  { dst := some 10, op := .mv (.t 6) },
  { dst := some 11, op := .fa 2 258 },
  { dst := some 12, op := .ld none 11 },
  { dst := some 13, op := .len false (.t 12) },
  { dst := some 14, op := .bin .lss (.t 10) (.t 13) }]
def a65_k2 : AC := (.cond (.t 14) .skip (.exit 0))
def a65_r7 : List AI := [
  { dst := some 17, op := .fa 2 258 },
  { dst := some 18, op := .ld none 17 },
  { dst := some 19, op := .mv (.t 6) },
  { dst := some 20, op := .ias 259 (.t 18) (.t 19) },
  { dst := some 21, op := .ld (some 259) 20 },
  { dst := some 22, op := .mv (.t 1) },
  { dst := some 23, op := .bin .sub (.t 22) (.k (.int .i64 1)) },
  { dst := some 24, op := .call 65 [(.t 21), (.t 23)] },
  { dst := some 7, op := .mv (.t 24) }]
def a65_r8 : List AI := [
  { dst := some 25, op := .mv (.t 7) },
  { dst := some 26, op := .mv (.t 5) },
  { dst := some 27, op := .bin .gtr (.t 25) (.t 26) }]
def a65_r9 : List AI := [
  { dst := some 28, op := .mv (.t 7) },
  { dst := some 5, op := .mv (.t 28) }]
def a65_k3 : AC := (.cond (.t 27) (.reg a65_r9) .skip)
def a65_k4 : AC := (.seq (.reg a65_r8) a65_k3)
def a65_r6 : List AI := [
  { dst := some 15, op := .mv (.t 6) },
  { dst := some 16, op := .bin .add (.t 15) (.k (.int .i64 1)) },
  { dst := some 6, op := .mv (.t 16) }]
def a65_k5 : AC := (.seq (.block 1 (.seq (.reg a65_r7) a65_k4)) (.reg a65_r6))
def a65_L1 : AC := (.seq (.seq (.reg a65_r5) a65_k2) a65_k5)
def a65_k6 : AC := (.block 0 (.loop a65_L1))
def a65_r10 : List AI := [
  { dst := some 29, op := .mv (.t 5) },
  { dst := some 30, op := .bin .add (.t 29) (.k (.int .i64 1)) },
  { dst := some 4, op := .mv (.t 30) }]
def a65_k7 : AC := (.seq (.reg a65_r10) .ret)
def a65_k8 : AC := (.seq (.seq (.reg a65_r4) a65_k6) a65_k7)
def a65_k9 : AC := (.seq (.reg a65_r3) a65_k8)
def a65_k10 : AC := (.seq (.seq (.reg a65_r1) a65_k1) a65_k9)
def a65_B : AC := (.seq (.reg a65_r0) a65_k10)
/-- catchpole/catchpoleref17.deep -/
def a65 : AF := { N := 31, V := [2], body := a65_B, res := [.t 4] }
theorem c65 : chkF P a65 Go.Proofs.Tryd.f65 = true := by kernel_rfl
mutual
/-- catchpole/catchpoleref17.deep -/
def ref17_deep (k : Nat) (x0 : T_ref17_Coded) (x1 : Int) : Option Int := match k with
  | 0 => none
  | k + 1 =>
    if (decide (x1 ≤ 0)) = true then (some 1)
    else ref17_deep_L1 k x1 x0 0 0
def ref17_deep_L1 (k : Nat) (t1 : Int) (v2 : T_ref17_Coded) (t5 : Int) (t6 : Int) : Option Int := match k with
  | 0 => none
  | k + 1 =>
    if (decide (t6 < (v2.L.length : Int))) = true then ((at_ v2.L t6).bind fun y20 =>
    (ref17_deep k y20 (IntKind.i64.wrap (t1 - 1))).bind fun y24 =>
    if (decide (y24 > t5)) = true then (ref17_deep_J1 k t1 v2 y24 t6)
    else ref17_deep_J1 k t1 v2 t5 t6)
    else some (IntKind.i64.wrap (t5 + 1))
def ref17_deep_J1 (k : Nat) (t1 : Int) (v2 : T_ref17_Coded) (t5 : Int) (t6 : Int) : Option Int := match k with
  | 0 => none
  | k + 1 =>
    ref17_deep_L1 k t1 v2 t5 (IntKind.i64.wrap (t6 + 1))
end
def a65_q1 (R : Ex → St → Prop) : Ex → St → Prop := Ex.then (wpc (Ev P) a65_k7 R) R
def a65_q2 (R : Ex → St → Prop) : Ex → St → Prop := Ex.inBlock 0 (a65_q1 R)
def a65_q3 (R : Ex → St → Prop) : Ex → St → Prop := Ex.then (wpc (Ev P) (.loop a65_L1) (a65_q2 R)) (a65_q2 R)
def S_ref17_deep (k : Nat) : Prop := ∀ (x0 : T_ref17_Coded) (x1 : Int) (r : Int), ref17_deep k x0 x1 = some r → ∀ H, Ev P 65 [(.agg (T_ref17_Coded.cells lw x0)), (.int .i64 x1)] H (.int .i64 r) H
def S_ref17_deep_L1 (k : Nat) : Prop := ∀ (t1 : Int) (v2 : T_ref17_Coded) (t5 : Int) (t6 : Int) (r : Int) (ρ : Nat → Slot) (H : List (Option (List D))) , ref17_deep_L1 k t1 v2 t5 t6 = some r → wpc (Ev P) (.loop a65_L1) (a65_q2 (retN a65.res (.int .i64 r))) ⟨upds ρ [(1, .d (.int .i64 t1)), (2, .var (T_ref17_Coded.cells lw v2)), (5, .d (.int .i64 t5)), (6, .d (.int .i64 t6))], H⟩
def S_ref17_deep_J1 (k : Nat) : Prop := ∀ (t1 : Int) (v2 : T_ref17_Coded) (t5 : Int) (t6 : Int) (r : Int) (ρ : Nat → Slot) (H : List (Option (List D))) , ref17_deep_J1 k t1 v2 t5 t6 = some r → wpc (Ev P) (.reg a65_r6) (a65_q3 (retN a65.res (.int .i64 r))) ⟨upds ρ [(1, .d (.int .i64 t1)), (2, .var (T_ref17_Coded.cells lw v2)), (5, .d (.int .i64 t5)), (6, .d (.int .i64 t6))], H⟩
structure C_ref17_deep (k : Nat) : Prop where
  ref17_deep : S_ref17_deep k
  ref17_deep_L1 : S_ref17_deep_L1 k
  ref17_deep_J1 : S_ref17_deep_J1 k
theorem t_ref17_deep (k : Nat) (ih : C_ref17_deep k) : S_ref17_deep (k + 1) := by
  intro x0 x1 r h H0
  rw [ref17_deep] at h
  refine evc_intro a65 Go.Proofs.Tryd.func65 c65 (Nat.le_of_ble_eq_true rfl) (cl_cons (T_ref17_Coded.closed _) (cl_cons rfl cl_nil)) rfl ?_ H0
  generalize ([] : List (Option (List D))) = H
  show wpc (Ev P) a65_B (retN a65.res (.int .i64 r)) _
  refine c_seq ?_
  refine c_reg ?_
  refine o_box (vt rfl (copy_of_agg _)) (T_ref17_Coded.one wr_l _) (T_ref17_Coded.copy wr_l _) ?_
  refine o_mvk ?_
  refine o_nil ?_
  refine k_then ?_
  refine c_seq ?_
  refine c_seq ?_
  refine c_reg ?_
  refine o_mvt rfl (copy_of_int _ _) ?_
  refine o_bin (vt rfl (copy_of_int _ _)) (vk (copy_of_int _ _)) bin_leq ?_
  refine o_nil ?_
  refine k_then ?_
  by_cases c1 : (decide (x1 ≤ 0)) = true
  · have h := it_t h c1
    refine c_cond_t (vt rfl (copy_of_bool _)) c1 ?_
    refine c_seq ?_
    refine c_reg ?_
    refine o_mvk ?_
    refine o_nil ?_
    refine k_then ?_
    refine c_ret ?_
    refine k_then_ret ?_
    obtain rfl := Option.some.inj h
    exact r_one rfl (res_t rfl (copy_of_int _ _)) (.inl rfl)
  · have c1 := bf c1
    have h := it_f h c1
    refine c_cond_f (vt rfl (copy_of_bool _)) c1 ?_
    refine c_skip ?_
    refine k_then ?_
    refine c_seq ?_
    refine c_reg ?_
    refine o_mvk ?_
    refine o_nil ?_
    refine k_then ?_
    refine c_seq ?_
    refine c_seq ?_
    refine c_reg ?_
    refine o_mvk ?_
    refine o_nil ?_
    refine k_then ?_
    refine c_block ?_
    exact wpc_head (ih.ref17_deep_L1 _ _ _ _ _ _ _ h) ⟨rfl, rfl, rfl, rfl, trivial⟩
theorem t_ref17_deep_L1 (k : Nat) (ih : C_ref17_deep k) : S_ref17_deep_L1 (k + 1) := by
  intro t1 v2 t5 t6 r ρ H h
  rw [ref17_deep_L1] at h
  refine wpc_loop_i ?_
  refine c_seq ?_
  refine c_seq ?_
  refine c_reg ?_
  refine o_mvt rfl (copy_of_int _ _) ?_
  refine o_fa (lv_v rfl) ?_
  refine o_ld1 (lv_l rfl) rfl (T_ref17_Coded.cut_L lw _) (Wr.copy wr_l _ _) ?_
  refine o_len_l (vt rfl (copy_of_list _)) (fun _ => ?_)
  refine o_bin (vt rfl (copy_of_int _ _)) (vt rfl (copy_of_int _ _)) bin_lss ?_
  refine o_nil ?_
  refine k_then ?_
  by_cases c1 : (decide (t6 < (v2.L.length : Int))) = true
  · have h := it_t h c1
    refine c_cond_t (vt rfl (copy_of_bool _)) c1 ?_
    refine c_skip ?_
    refine k_then ?_
    refine c_seq ?_
    refine c_block ?_
    refine c_seq ?_
    refine c_reg ?_
    refine o_fa (lv_v rfl) ?_
    refine o_ld1 (lv_l rfl) rfl (T_ref17_Coded.cut_L lw _) (Wr.copy wr_l _ _) ?_
    refine o_mvt rfl (copy_of_int _ _) ?_
    obtain ⟨y20, hy20, h⟩ := bind_some h
    refine o_ias (vt rfl (copy_of_list _)) (vt rfl (copy_of_int _ _)) hy20 (T_ref17_Coded.enc_cells _) (T_ref17_Coded.len lw _) ?_
    refine o_ldi rfl (cut_all (T_ref17_Coded.len _ _)) (T_ref17_Coded.copy wr_l _) ?_
    refine o_mvt rfl (copy_of_int _ _) ?_
    refine o_bin (vt rfl (copy_of_int _ _)) (vk (copy_of_int _ _)) bin_sub ?_
    obtain ⟨y24, hy24, h⟩ := bind_some h
    refine o_call rfl (g_cons (gt_ rfl (copy_of_agg _)) (g_cons (gt_ rfl (copy_of_int _ _)) g_nil)) (ih.ref17_deep _ _ _ hy24 _) ?_
    refine o_mvt rfl (copy_of_int _ _) ?_
    refine o_nil ?_
    refine k_then ?_
    refine c_seq ?_
    refine c_reg ?_
    refine o_mvt rfl (copy_of_int _ _) ?_
    refine o_mvt rfl (copy_of_int _ _) ?_
    refine o_bin (vt rfl (copy_of_int _ _)) (vt rfl (copy_of_int _ _)) bin_gtr ?_
    refine o_nil ?_
    refine k_then ?_
    by_cases c2 : (decide (y24 > t5)) = true
    · have h := it_t h c2
      refine c_cond_t (vt rfl (copy_of_bool _)) c2 ?_
      refine c_reg ?_
      refine o_mvt rfl (copy_of_int _ _) ?_
      refine o_mvt rfl (copy_of_int _ _) ?_
      refine o_nil ?_
      refine k_block _ ?_
      refine k_then ?_
      exact wpc_head (ih.ref17_deep_J1 _ _ _ _ _ _ _ h) ⟨rfl, rfl, rfl, rfl, trivial⟩
    · have c2 := bf c2
      have h := it_f h c2
      refine c_cond_f (vt rfl (copy_of_bool _)) c2 ?_
      refine c_skip ?_
      refine k_block _ ?_
      refine k_then ?_
      exact wpc_head (ih.ref17_deep_J1 _ _ _ _ _ _ _ h) ⟨rfl, rfl, rfl, rfl, trivial⟩
  · have c1 := bf c1
    have h := it_f h c1
    refine c_cond_f (vt rfl (copy_of_bool _)) c1 ?_
    refine c_exit ?_
    refine k_then_exit ?_
    refine k_then_exit ?_
    refine k_block_exit _ ?_
    refine k_then ?_
    refine c_seq ?_
    refine c_reg ?_
    refine o_mvt rfl (copy_of_int _ _) ?_
    refine o_bin (vt rfl (copy_of_int _ _)) (vk (copy_of_int _ _)) bin_add ?_
    refine o_mvt rfl (copy_of_int _ _) ?_
    refine o_nil ?_
    refine k_then ?_
    refine c_ret ?_
    obtain rfl := Option.some.inj h
    exact r_one rfl (res_t rfl (copy_of_int _ _)) (.inl rfl)
theorem t_ref17_deep_J1 (k : Nat) (ih : C_ref17_deep k) : S_ref17_deep_J1 (k + 1) := by
  intro t1 v2 t5 t6 r ρ H h
  rw [ref17_deep_J1] at h
  refine c_reg ?_
  refine o_mvt rfl (copy_of_int _ _) ?_
  refine o_bin (vt rfl (copy_of_int _ _)) (vk (copy_of_int _ _)) bin_add ?_
  refine o_mvt rfl (copy_of_int _ _) ?_
  refine o_nil ?_
  refine k_then ?_
  exact wpc_head (ih.ref17_deep_L1 _ _ _ _ _ _ _ h) ⟨rfl, rfl, rfl, rfl, trivial⟩
theorem z_ref17_deep : S_ref17_deep 0 := by
  intro x0 x1 r h H
  rw [ref17_deep] at h; cases h
theorem z_ref17_deep_L1 : S_ref17_deep_L1 0 := by
  intro t1 v2 t5 t6 r ρ H h
  rw [ref17_deep_L1] at h; cases h
theorem z_ref17_deep_J1 : S_ref17_deep_J1 0 := by
  intro t1 v2 t5 t6 r ρ H h
  rw [ref17_deep_J1] at h; cases h
theorem C_ref17_deep.all : ∀ k, C_ref17_deep k
  | 0 => ⟨z_ref17_deep, z_ref17_deep_L1, z_ref17_deep_J1⟩
  | k + 1 => ⟨t_ref17_deep k (C_ref17_deep.all k), t_ref17_deep_L1 k (C_ref17_deep.all k), t_ref17_deep_J1 k (C_ref17_deep.all k)⟩
theorem s_ref17_deep (k : Nat) : S_ref17_deep k := (C_ref17_deep.all k).ref17_deep
end Go.Am
