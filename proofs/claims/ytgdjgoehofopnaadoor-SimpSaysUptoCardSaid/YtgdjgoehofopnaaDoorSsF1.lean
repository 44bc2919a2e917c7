/- Functions over typed data, and that the program comes to their answers: printed by a program of this session. -/
import Derived.Test.YtgdjgoehofopnaaDoorSsTy
set_option linter.unusedSimpArgs false
set_option linter.unusedVariables false
set_option maxRecDepth 10000
namespace Go.Am
open Go
def a28_r0 : List AI := [
  { dst := some 1, op := .box (.t 0) },
  { dst := some 2, op := .mv (.k (.int .i64 0)) }]
def a28_r1 : List AI := [
  { dst := some 3, op := .mv (.k (.int .i64 1)) }]
def a28_r2 : List AI := [
  { dst := some 6, op := .fa 1 6 },
  { dst := some 7, op := .ld none 6 },
  { dst := some 8, op := .len false (.t 7) },
  { dst := some 9, op := .mv (.k (.int .i64 0)) }]
def a28_r3 : List AI := [
  { dst := some 10, op := .bin .lss (.t 9) (.t 8) }]
def a28_r4 : List AI := [
  { dst := some 11, op := .ias 7 (.t 7) (.t 9) },
  { dst := some 12, op := .ld (some 7) 11 },
  { dst := some 5, op := .alloc [.int .i64 0, .str [], .int .u64 0, .int .u64 0, .int .u64 0, .int .u64 0, .list []] },
  { dst := none, op := .st 7 5 (.t 12) }]
def a28_r5 : List AI := [
  { dst := some 13, op := .mv (.t 3) },
  { dst := some 14, op := .ld (some 7) 5 },
  { dst := some 15, op := .call 28 [(.t 14)] },
  { dst := some 16, op := .bin .add (.t 13) (.t 15) },
  { dst := some 3, op := .mv (.t 16) }]
def a28_r6 : List AI := [
  { dst := some 17, op := .bin .add (.t 9) (.k (.int .i64 1)) },
  { dst := some 9, op := .mv (.t 17) }]
def a28_k1 : AC := (.seq (.block 1 (.seq (.reg a28_r4) (.reg a28_r5))) (.reg a28_r6))
def a28_k2 : AC := (.seq (.cond (.t 10) .skip (.exit 0)) a28_k1)
def a28_L1 : AC := (.seq (.reg a28_r3) a28_k2)
def a28_k3 : AC := (.block 0 (.loop a28_L1))
def a28_r7 : List AI := [
  { dst := some 18, op := .mv (.t 3) },
  { dst := some 2, op := .mv (.t 18) }]
def a28_k4 : AC := (.seq (.reg a28_r7) .ret)
def a28_k5 : AC := (.seq (.seq (.reg a28_r2) a28_k3) a28_k4)
def a28_k6 : AC := (.seq (.reg a28_r1) a28_k5)
def a28_B : AC := (.seq (.reg a28_r0) a28_k6)
/-- catchpole/coded.Size -/
def a28 : AF := { N := 19, V := [1, 5], body := a28_B, res := [.t 2] }
theorem c28 : chkF P a28 Go.Proofs.Tryd.f28 = true := by kernel_rfl
mutual
/-- catchpole/coded.Size -/
def coded_Size (k : Nat) (x0 : T_coded_Coded) : Option Int := match k with
  | 0 => none
  | k + 1 =>
    coded_Size_L1 k 1 x0.L (x0.L.length : Int) 0
def coded_Size_L1 (k : Nat) (t3 : Int) (t7 : (List T_coded_Coded)) (t8 : Int) (t9 : Int) : Option Int := match k with
  | 0 => none
  | k + 1 =>
    if (decide (t9 < t8)) = true then ((at_ t7 t9).bind fun y11 =>
    (coded_Size k y11).bind fun y15 =>
    coded_Size_L1 k (IntKind.i64.wrap (t3 + y15)) t7 t8 (IntKind.i64.wrap (t9 + 1)))
    else some t3
end
def a28_q1 (R : Ex → St → Prop) : Ex → St → Prop := Ex.then (wpc (Ev P) a28_k4 R) R
def a28_q2 (R : Ex → St → Prop) : Ex → St → Prop := Ex.inBlock 0 (a28_q1 R)
def S_coded_Size (k : Nat) : Prop := ∀ (x0 : T_coded_Coded) (r : Int), coded_Size k x0 = some r → ∀ H, Ev P 28 [(.agg (T_coded_Coded.cells lw x0))] H (.int .i64 r) H
def S_coded_Size_L1 (k : Nat) : Prop := ∀ (t3 : Int) (t7 : (List T_coded_Coded)) (t8 : Int) (t9 : Int) (r : Int) (ρ : Nat → Slot) (H : List (Option (List D))) , coded_Size_L1 k t3 t7 t8 t9 = some r → wpc (Ev P) (.loop a28_L1) (a28_q2 (retN a28.res (.int .i64 r))) ⟨upds ρ [(3, .d (.int .i64 t3)), (7, .d (.list (t7.map T_coded_Coded.enc))), (8, .d (.int .i64 t8)), (9, .d (.int .i64 t9))], H⟩
structure C_coded_Size (k : Nat) : Prop where
  coded_Size : S_coded_Size k
  coded_Size_L1 : S_coded_Size_L1 k
theorem t_coded_Size (k : Nat) (ih : C_coded_Size k) : S_coded_Size (k + 1) := by
  intro x0 r h H0
  rw [coded_Size] at h
  refine evc_intro a28 Go.Proofs.Tryd.func28 c28 (Nat.le_of_ble_eq_true rfl) (cl_cons (T_coded_Coded.closed _) cl_nil) rfl ?_ H0
  generalize ([] : List (Option (List D))) = H
  show wpc (Ev P) a28_B (retN a28.res (.int .i64 r)) _
  refine c_seq ?_
  refine c_reg ?_
  refine o_box (vt rfl (copy_of_agg _)) (T_coded_Coded.one wr_l _) (T_coded_Coded.copy wr_l _) ?_
  refine o_mvk ?_
  refine o_nil ?_
  refine k_then ?_
  refine c_seq ?_
  refine c_reg ?_
  refine o_mvk ?_
  refine o_nil ?_
  refine k_then ?_
  refine c_seq ?_
  refine c_seq ?_
  refine c_reg ?_
  refine o_fa (lv_v rfl) ?_
  refine o_ld1 (lv_l rfl) rfl (T_coded_Coded.cut_L lw _) (Wr.copy wr_l _ _) ?_
  refine o_len_l (vt rfl (copy_of_list _)) (fun _ => ?_)
  refine o_mvk ?_
  refine o_nil ?_
  refine k_then ?_
  refine c_block ?_
  exact wpc_head (ih.coded_Size_L1 _ _ _ _ _ _ _ h) ⟨rfl, rfl, rfl, rfl, trivial⟩
theorem t_coded_Size_L1 (k : Nat) (ih : C_coded_Size k) : S_coded_Size_L1 (k + 1) := by
  intro t3 t7 t8 t9 r ρ H h
  rw [coded_Size_L1] at h
  refine wpc_loop_i ?_
  refine c_seq ?_
  refine c_reg ?_
  refine o_bin (vt rfl (copy_of_int _ _)) (vt rfl (copy_of_int _ _)) bin_lss ?_
  refine o_nil ?_
  refine k_then ?_
  refine c_seq ?_
  by_cases c1 : (decide (t9 < t8)) = true
  · have h := it_t h c1
    refine c_cond_t (vt rfl (copy_of_bool _)) c1 ?_
    refine c_skip ?_
    refine k_then ?_
    refine c_seq ?_
    refine c_block ?_
    refine c_seq ?_
    refine c_reg ?_
    obtain ⟨y11, hy11, h⟩ := bind_some h
    refine o_ias (vt rfl (copy_of_list _)) (vt rfl (copy_of_int _ _)) hy11 (T_coded_Coded.enc_cells _) (T_coded_Coded.len lw _) ?_
    refine o_ldi rfl (cut_all (T_coded_Coded.len _ _)) (T_coded_Coded.copy wr_l _) ?_
    refine o_alloc (cs := T_coded_Coded.cells lw (T_coded_Coded.mk 0 [] (Arr.rep 4 0) [])) rfl ?_
    refine o_st rfl (lv_v rfl) (gt_ rfl (copy_of_agg _)) (cells_of_agg _) (T_coded_Coded.len _ _) (T_coded_Coded.one wr_l _) rfl (splice_all (n := 7) (T_coded_Coded.len _ _) (T_coded_Coded.len _ _)) ?_
    refine o_nil ?_
    refine k_then ?_
    refine c_reg ?_
    refine o_mvt rfl (copy_of_int _ _) ?_
    refine o_ld (lv_v rfl) rfl (cut_all (T_coded_Coded.len _ _)) (T_coded_Coded.copy wr_l _) ?_
    obtain ⟨y15, hy15, h⟩ := bind_some h
    refine o_call rfl (g_cons (gt_ rfl (copy_of_agg _)) g_nil) (ih.coded_Size _ _ hy15 _) ?_
    refine o_bin (vt rfl (copy_of_int _ _)) (vt rfl (copy_of_int _ _)) bin_add ?_
    refine o_mvt rfl (copy_of_int _ _) ?_
    refine o_nil ?_
    refine k_block _ ?_
    refine k_then ?_
    refine c_reg ?_
    refine o_bin (vt rfl (copy_of_int _ _)) (vk (copy_of_int _ _)) bin_add ?_
    refine o_mvt rfl (copy_of_int _ _) ?_
    refine o_nil ?_
    refine k_then ?_
    exact wpc_head (ih.coded_Size_L1 _ _ _ _ _ _ _ h) ⟨rfl, rfl, rfl, rfl, trivial⟩
  · have c1 := bf c1
    have h := it_f h c1
    refine c_cond_f (vt rfl (copy_of_bool _)) c1 ?_
    refine c_exit ?_
    refine k_then_exit ?_
    refine k_then_exit ?_
    refine k_block_exit _ ?_
    refine k_then ?_
    refine c_seq ?_
    refine c_reg ?_
    refine o_mvt rfl (copy_of_int _ _) ?_
    refine o_mvt rfl (copy_of_int _ _) ?_
    refine o_nil ?_
    refine k_then ?_
    refine c_ret ?_
    obtain rfl := Option.some.inj h
    exact r_one rfl (res_t rfl (copy_of_int _ _)) (.inl rfl)
theorem z_coded_Size : S_coded_Size 0 := by
  intro x0 r h H
  rw [coded_Size] at h; cases h
theorem z_coded_Size_L1 : S_coded_Size_L1 0 := by
  intro t3 t7 t8 t9 r ρ H h
  rw [coded_Size_L1] at h; cases h
theorem C_coded_Size.all : ∀ k, C_coded_Size k
  | 0 => ⟨z_coded_Size, z_coded_Size_L1⟩
  | k + 1 => ⟨t_coded_Size k (C_coded_Size.all k), t_coded_Size_L1 k (C_coded_Size.all k)⟩
theorem s_coded_Size (k : Nat) : S_coded_Size k := (C_coded_Size.all k).coded_Size
def a62_r0 : List AI := [
  { dst := some 4, op := .mv (.k (.int .i64 0)) }]
def a62_r1 : List AI := [
  { dst := some 6, op := .mv (.t 0) },
  { dst := some 7, op := .len false (.t 6) },
  { dst := some 8, op := .mv (.k (.int .i64 0)) }]
def a62_r2 : List AI := [
  { dst := some 9, op := .bin .lss (.t 8) (.t 7) }]
def a62_r3 : List AI := [
  { dst := some 10, op := .mv (.t 8) },
  { dst := some 5, op := .mv (.t 10) }]
def a62_r4 : List AI := [
  { dst := some 11, op := .mv (.t 1) },
  { dst := some 12, op := .mv (.t 0) },
  { dst := some 13, op := .mv (.t 5) },
  { dst := some 14, op := .ias 7 (.t 12) (.t 13) },
  { dst := some 15, op := .ld (some 7) 14 },
  { dst := some 16, op := .callv (.t 11) [(.t 15)] }]
def a62_r5 : List AI := [
  { dst := some 17, op := .mv (.t 5) },
  { dst := some 4, op := .mv (.t 17) }]
def a62_k1 : AC := (.cond (.t 16) (.seq (.reg a62_r5) .ret) .skip)
def a62_k2 : AC := (.seq (.reg a62_r4) a62_k1)
def a62_r6 : List AI := [
  { dst := some 18, op := .bin .add (.t 8) (.k (.int .i64 1)) },
  { dst := some 8, op := .mv (.t 18) }]
def a62_k3 : AC := (.seq (.block 1 (.seq (.reg a62_r3) a62_k2)) (.reg a62_r6))
def a62_k4 : AC := (.seq (.cond (.t 9) .skip (.exit 0)) a62_k3)
def a62_L1 : AC := (.seq (.reg a62_r2) a62_k4)
def a62_k5 : AC := (.block 0 (.loop a62_L1))
def a62_r7 : List AI := [
  { dst := some 4, op := .mv (.k (.int .i64 (-1))) }]
def a62_k6 : AC := (.seq (.reg a62_r7) .ret)
def a62_k7 : AC := (.seq (.seq (.reg a62_r1) a62_k5) a62_k6)
def a62_B : AC := (.seq (.reg a62_r0) a62_k7)
/-- slices.IndexFunc[[]catchpole/coded.Coded,catchpole/coded.Coded] -/
def a62 : AF := { N := 19, V := [], body := a62_B, res := [.t 4] }
theorem c62 : chkF P a62 Go.Proofs.Tryd.f62 = true := by kernel_rfl
mutual
/-- slices.IndexFunc[[]catchpole/coded.Coded,catchpole/coded.Coded] -/
def slices_IndexFunc_Lcoded_Coded_coded_Coded (k : Nat) (x0 : (List T_coded_Coded)) (p1 : T_coded_Coded → Option Bool) : Option Int := match k with
  | 0 => none
  | k + 1 =>
    slices_IndexFunc_Lcoded_Coded_coded_Coded_L1 k p1 x0 (x0.length : Int) 0
def slices_IndexFunc_Lcoded_Coded_coded_Coded_L1 (k : Nat) (p1 : T_coded_Coded → Option Bool) (t0 : (List T_coded_Coded)) (t7 : Int) (t8 : Int) : Option Int := match k with
  | 0 => none
  | k + 1 =>
    if (decide (t8 < t7)) = true then ((at_ t0 t8).bind fun y14 =>
    (p1 y14).bind fun y16 =>
    if y16 = true then (some t8)
    else slices_IndexFunc_Lcoded_Coded_coded_Coded_L1 k p1 t0 t7 (IntKind.i64.wrap (t8 + 1)))
    else some (-1)
end
def a62_q1 (R : Ex → St → Prop) : Ex → St → Prop := Ex.then (wpc (Ev P) a62_k6 R) R
def a62_q2 (R : Ex → St → Prop) : Ex → St → Prop := Ex.inBlock 0 (a62_q1 R)
def S_slices_IndexFunc_Lcoded_Coded_coded_Coded (k : Nat) : Prop := ∀ (x0 : (List T_coded_Coded)) (p1 : T_coded_Coded → Option Bool) (g1 : Nat) (cs1 : List D) (H : List (Option (List D))) (hp1 : ∀ (a0 : T_coded_Coded) (r : Bool), p1 a0 = some r → Ev P g1 ([(.agg (T_coded_Coded.cells lw a0))] ++ cs1) H (.bool r) H) (r : Int), slices_IndexFunc_Lcoded_Coded_coded_Coded k x0 p1 = some r → Ev P 62 [(.list (x0.map T_coded_Coded.enc)), (.fn g1 cs1)] H (.int .i64 r) H
def S_slices_IndexFunc_Lcoded_Coded_coded_Coded_L1 (k : Nat) : Prop := ∀ (p1 : T_coded_Coded → Option Bool) (g1 : Nat) (cs1 : List D) (t0 : (List T_coded_Coded)) (t7 : Int) (t8 : Int) (r : Int) (ρ : Nat → Slot) (H : List (Option (List D))) (hp1 : ∀ (a0 : T_coded_Coded) (r : Bool), p1 a0 = some r → Ev P g1 ([(.agg (T_coded_Coded.cells lw a0))] ++ cs1) H (.bool r) H), slices_IndexFunc_Lcoded_Coded_coded_Coded_L1 k p1 t0 t7 t8 = some r → wpc (Ev P) (.loop a62_L1) (a62_q2 (retQ a62.res (.int .i64 r) H)) ⟨upds ρ [(0, .d (.list (t0.map T_coded_Coded.enc))), (1, .d (.fn g1 cs1)), (7, .d (.int .i64 t7)), (8, .d (.int .i64 t8))], H⟩
structure C_slices_IndexFunc_Lcoded_Coded_coded_Coded (k : Nat) : Prop where
  slices_IndexFunc_Lcoded_Coded_coded_Coded : S_slices_IndexFunc_Lcoded_Coded_coded_Coded k
  slices_IndexFunc_Lcoded_Coded_coded_Coded_L1 : S_slices_IndexFunc_Lcoded_Coded_coded_Coded_L1 k
theorem t_slices_IndexFunc_Lcoded_Coded_coded_Coded (k : Nat) (ih : C_slices_IndexFunc_Lcoded_Coded_coded_Coded k) : S_slices_IndexFunc_Lcoded_Coded_coded_Coded (k + 1) := by
  intro x0 p1 g1 cs1 H hp1 r h
  rw [slices_IndexFunc_Lcoded_Coded_coded_Coded] at h
  refine ev_intro a62 Go.Proofs.Tryd.func62 c62 (Nat.le_of_ble_eq_true rfl) ?_
  show wpc (Ev P) a62_B (retQ a62.res (.int .i64 r) H) _
  refine c_seq ?_
  refine c_reg ?_
  refine o_mvk ?_
  refine o_nil ?_
  refine k_then ?_
  refine c_seq ?_
  refine c_seq ?_
  refine c_reg ?_
  refine o_mvt rfl (copy_of_list _) ?_
  refine o_len_l (vt rfl (copy_of_list _)) (fun _ => ?_)
  refine o_mvk ?_
  refine o_nil ?_
  refine k_then ?_
  refine c_block ?_
  exact wpc_head (ih.slices_IndexFunc_Lcoded_Coded_coded_Coded_L1 _ _ _ _ _ _ _ _ _ hp1 h) ⟨rfl, rfl, rfl, rfl, trivial⟩
theorem t_slices_IndexFunc_Lcoded_Coded_coded_Coded_L1 (k : Nat) (ih : C_slices_IndexFunc_Lcoded_Coded_coded_Coded k) : S_slices_IndexFunc_Lcoded_Coded_coded_Coded_L1 (k + 1) := by
  intro p1 g1 cs1 t0 t7 t8 r ρ H hp1 h
  rw [slices_IndexFunc_Lcoded_Coded_coded_Coded_L1] at h
  refine wpc_loop_i ?_
  refine c_seq ?_
  refine c_reg ?_
  refine o_bin (vt rfl (copy_of_int _ _)) (vt rfl (copy_of_int _ _)) bin_lss ?_
  refine o_nil ?_
  refine k_then ?_
  refine c_seq ?_
  by_cases c1 : (decide (t8 < t7)) = true
  · have h := it_t h c1
    refine c_cond_t (vt rfl (copy_of_bool _)) c1 ?_
    refine c_skip ?_
    refine k_then ?_
    refine c_seq ?_
    refine c_block ?_
    refine c_seq ?_
    refine c_reg ?_
    refine o_mvt rfl (copy_of_int _ _) ?_
    refine o_mvt rfl (copy_of_int _ _) ?_
    refine o_nil ?_
    refine k_then ?_
    refine c_seq ?_
    refine c_reg ?_
    refine o_mvt rfl (copy_of_fn _ _) ?_
    refine o_mvt rfl (copy_of_list _) ?_
    refine o_mvt rfl (copy_of_int _ _) ?_
    obtain ⟨y14, hy14, h⟩ := bind_some h
    refine o_ias (vt rfl (copy_of_list _)) (vt rfl (copy_of_int _ _)) hy14 (T_coded_Coded.enc_cells _) (T_coded_Coded.len lw _) ?_
    refine o_ldi rfl (cut_all (T_coded_Coded.len _ _)) (T_coded_Coded.copy wr_l _) ?_
    obtain ⟨y16, hy16, h⟩ := bind_some h
    refine o_callv rfl  (vt rfl (copy_of_fn _ _)) (g_cons (gt_ rfl (copy_of_agg _)) g_nil) (hp1 _ _ hy16) ?_
    refine o_nil ?_
    refine k_then ?_
    by_cases c2 : y16 = true
    · have h := it_t h c2
      refine c_cond_t (vt rfl (copy_of_bool _)) c2 ?_
      refine c_seq ?_
      refine c_reg ?_
      refine o_mvt rfl (copy_of_int _ _) ?_
      refine o_mvt rfl (copy_of_int _ _) ?_
      refine o_nil ?_
      refine k_then ?_
      refine c_ret ?_
      refine k_block_ret ?_
      refine k_then_ret ?_
      refine k_then_ret ?_
      refine k_block_ret ?_
      refine k_then_ret ?_
      obtain rfl := Option.some.inj h
      exact rq_one rfl (res_t rfl (copy_of_int _ _)) (.inl rfl) rfl
    · have c2 := bf c2
      have h := it_f h c2
      refine c_cond_f (vt rfl (copy_of_bool _)) c2 ?_
      refine c_skip ?_
      refine k_block _ ?_
      refine k_then ?_
      refine c_reg ?_
      refine o_bin (vt rfl (copy_of_int _ _)) (vk (copy_of_int _ _)) bin_add ?_
      refine o_mvt rfl (copy_of_int _ _) ?_
      refine o_nil ?_
      refine k_then ?_
      exact wpc_head (ih.slices_IndexFunc_Lcoded_Coded_coded_Coded_L1 _ _ _ _ _ _ _ _ _ hp1 h) ⟨rfl, rfl, rfl, rfl, trivial⟩
  · have c1 := bf c1
    have h := it_f h c1
    refine c_cond_f (vt rfl (copy_of_bool _)) c1 ?_
    refine c_exit ?_
    refine k_then_exit ?_
    refine k_then_exit ?_
    refine k_block_exit _ ?_
    refine k_then ?_
    refine c_seq ?_
    refine c_reg ?_
    refine o_mvk ?_
    refine o_nil ?_
    refine k_then ?_
    refine c_ret ?_
    obtain rfl := Option.some.inj h
    exact rq_one rfl (res_t rfl (copy_of_int _ _)) (.inl rfl) rfl
theorem z_slices_IndexFunc_Lcoded_Coded_coded_Coded : S_slices_IndexFunc_Lcoded_Coded_coded_Coded 0 := by
  intro x0 p1 g1 cs1 H hp1 r h
  rw [slices_IndexFunc_Lcoded_Coded_coded_Coded] at h; cases h
theorem z_slices_IndexFunc_Lcoded_Coded_coded_Coded_L1 : S_slices_IndexFunc_Lcoded_Coded_coded_Coded_L1 0 := by
  intro p1 g1 cs1 t0 t7 t8 r ρ H hp1 h
  rw [slices_IndexFunc_Lcoded_Coded_coded_Coded_L1] at h; cases h
theorem C_slices_IndexFunc_Lcoded_Coded_coded_Coded.all : ∀ k, C_slices_IndexFunc_Lcoded_Coded_coded_Coded k
  | 0 => ⟨z_slices_IndexFunc_Lcoded_Coded_coded_Coded, z_slices_IndexFunc_Lcoded_Coded_coded_Coded_L1⟩
  | k + 1 => ⟨t_slices_IndexFunc_Lcoded_Coded_coded_Coded k (C_slices_IndexFunc_Lcoded_Coded_coded_Coded.all k), t_slices_IndexFunc_Lcoded_Coded_coded_Coded_L1 k (C_slices_IndexFunc_Lcoded_Coded_coded_Coded.all k)⟩
theorem s_slices_IndexFunc_Lcoded_Coded_coded_Coded (k : Nat) : S_slices_IndexFunc_Lcoded_Coded_coded_Coded k := (C_slices_IndexFunc_Lcoded_Coded_coded_Coded.all k).slices_IndexFunc_Lcoded_Coded_coded_Coded
def a36_r0 : List AI := [
  { dst := some 4, op := .mv (.k (.bool false)) }]
def a36_r1 : List AI := [
  { dst := some 5, op := .mv (.t 0) },
  { dst := some 6, op := .mv (.t 1) },
  { dst := some 7, op := .call 62 [(.t 5), (.t 6)] },
  { dst := some 8, op := .bin .geq (.t 7) (.k (.int .i64 0)) },
  { dst := some 4, op := .mv (.t 8) }]
def a36_k1 : AC := (.seq (.reg a36_r1) .ret)
def a36_B : AC := (.seq (.reg a36_r0) a36_k1)
/-- slices.ContainsFunc[[]catchpole/coded.Coded,catchpole/coded.Coded] -/
def a36 : AF := { N := 9, V := [], body := a36_B, res := [.t 4] }
theorem c36 : chkF P a36 Go.Proofs.Tryd.f36 = true := by kernel_rfl
/-- slices.ContainsFunc[[]catchpole/coded.Coded,catchpole/coded.Coded] -/
def slices_ContainsFunc_Lcoded_Coded_coded_Coded (k : Nat) (x0 : (List T_coded_Coded)) (p1 : T_coded_Coded → Option Bool) : Option Bool := match k with
  | 0 => none
  | k + 1 =>
    (slices_IndexFunc_Lcoded_Coded_coded_Coded k x0 p1).bind fun y7 =>
    some (decide (y7 ≥ 0))
def S_slices_ContainsFunc_Lcoded_Coded_coded_Coded (k : Nat) : Prop := ∀ (x0 : (List T_coded_Coded)) (p1 : T_coded_Coded → Option Bool) (g1 : Nat) (cs1 : List D) (H : List (Option (List D))) (hp1 : ∀ (a0 : T_coded_Coded) (r : Bool), p1 a0 = some r → Ev P g1 ([(.agg (T_coded_Coded.cells lw a0))] ++ cs1) H (.bool r) H) (r : Bool), slices_ContainsFunc_Lcoded_Coded_coded_Coded k x0 p1 = some r → Ev P 36 [(.list (x0.map T_coded_Coded.enc)), (.fn g1 cs1)] H (.bool r) H
structure C_slices_ContainsFunc_Lcoded_Coded_coded_Coded (k : Nat) : Prop where
  slices_ContainsFunc_Lcoded_Coded_coded_Coded : S_slices_ContainsFunc_Lcoded_Coded_coded_Coded k
theorem t_slices_ContainsFunc_Lcoded_Coded_coded_Coded (k : Nat) (ih : C_slices_ContainsFunc_Lcoded_Coded_coded_Coded k) : S_slices_ContainsFunc_Lcoded_Coded_coded_Coded (k + 1) := by
  intro x0 p1 g1 cs1 H hp1 r h
  rw [slices_ContainsFunc_Lcoded_Coded_coded_Coded] at h
  refine ev_intro a36 Go.Proofs.Tryd.func36 c36 (Nat.le_of_ble_eq_true rfl) ?_
  show wpc (Ev P) a36_B (retQ a36.res (.bool r) H) _
  refine c_seq ?_
  refine c_reg ?_
  refine o_mvk ?_
  refine o_nil ?_
  refine k_then ?_
  refine c_seq ?_
  refine c_reg ?_
  refine o_mvt rfl (copy_of_list _) ?_
  refine o_mvt rfl (copy_of_fn _ _) ?_
  obtain ⟨y7, hy7, h⟩ := bind_some h
  refine o_call rfl (g_cons (gt_ rfl (copy_of_list _)) (g_cons (gt_ rfl (copy_of_fn _ _)) g_nil)) (s_slices_IndexFunc_Lcoded_Coded_coded_Coded k _ p1 _ _ _ hp1 _ hy7) ?_
  refine o_bin (vt rfl (copy_of_int _ _)) (vk (copy_of_int _ _)) bin_geq ?_
  refine o_mvt rfl (copy_of_bool _) ?_
  refine o_nil ?_
  refine k_then ?_
  refine c_ret ?_
  obtain rfl := Option.some.inj h
  exact rq_one rfl (res_t rfl (copy_of_bool _)) (.inl rfl) rfl
theorem z_slices_ContainsFunc_Lcoded_Coded_coded_Coded : S_slices_ContainsFunc_Lcoded_Coded_coded_Coded 0 := by
  intro x0 p1 g1 cs1 H hp1 r h
  rw [slices_ContainsFunc_Lcoded_Coded_coded_Coded] at h; cases h
theorem C_slices_ContainsFunc_Lcoded_Coded_coded_Coded.all : ∀ k, C_slices_ContainsFunc_Lcoded_Coded_coded_Coded k
  | 0 => ⟨z_slices_ContainsFunc_Lcoded_Coded_coded_Coded⟩
  | k + 1 => ⟨t_slices_ContainsFunc_Lcoded_Coded_coded_Coded k (C_slices_ContainsFunc_Lcoded_Coded_coded_Coded.all k)⟩
theorem s_slices_ContainsFunc_Lcoded_Coded_coded_Coded (k : Nat) : S_slices_ContainsFunc_Lcoded_Coded_coded_Coded k := (C_slices_ContainsFunc_Lcoded_Coded_coded_Coded.all k).slices_ContainsFunc_Lcoded_Coded_coded_Coded
def a81_r0 : List AI := [
  { dst := some 4, op := .mv (.k (.str [])) }]
def a81_r1 : List AI := [
  { dst := some 5, op := .mv (.t 0) },
  { dst := some 6, op := .len true (.t 5) },
  { dst := some 7, op := .bin .gtr (.t 6) (.k (.int .i64 0)) },
  { dst := some 8, op := .mv (.t 7) },
  { dst := some 9, g := some (8, true), op := .mv (.t 0) },
  { dst := some 10, g := some (8, true), op := .ixs (.t 9) (.k (.int .i64 0)) },
  { dst := some 11, g := some (8, true), op := .mv (.t 1) },
  { dst := some 12, g := some (8, true), op := .bin .eql (.t 10) (.t 11) },
  { dst := some 13, op := .pick (.t 8) (.t 12) (.k (.bool false)) }]
def a81_k1 : AC := (.cond (.t 13) .skip (.exit 0))
def a81_r2 : List AI := [
  { dst := some 14, op := .mv (.t 0) },
  { dst := some 15, op := .sls (.t 14) (some (.k (.int .i64 1))) none },
  { dst := some 0, op := .mv (.t 15) }]
def a81_k2 : AC := (.block 1 (.reg a81_r2))
def a81_L1 : AC := (.seq (.seq (.reg a81_r1) a81_k1) a81_k2)
def a81_r3 : List AI := [
  { dst := some 16, op := .mv (.t 0) },
  { dst := some 4, op := .mv (.t 16) }]
def a81_k3 : AC := (.seq (.reg a81_r3) .ret)
def a81_k4 : AC := (.seq (.block 0 (.loop a81_L1)) a81_k3)
def a81_B : AC := (.seq (.reg a81_r0) a81_k4)
/-- strings.trimLeftByte -/
def a81 : AF := { N := 17, V := [], body := a81_B, res := [.t 4] }
theorem c81 : chkF P a81 Go.Proofs.Tryd.f81 = true := by kernel_rfl
mutual
/-- strings.trimLeftByte -/
def strings_trimLeftByte (k : Nat) (x0 : (List UInt8)) (x1 : Int) : Option (List UInt8) := match k with
  | 0 => none
  | k + 1 =>
    strings_trimLeftByte_L1 k x0 x1
def strings_trimLeftByte_L1 (k : Nat) (t0 : (List UInt8)) (t1 : Int) : Option (List UInt8) := match k with
  | 0 => none
  | k + 1 =>
    if (decide ((t0.length : Int) > 0)) = true then ((at_ t0 0).bind fun y10 =>
    strings_trimLeftByte_J1 k t0 t1 ((y10.toNat : Int) == t1))
    else strings_trimLeftByte_J1 k t0 t1 false
def strings_trimLeftByte_J1 (k : Nat) (t0 : (List UInt8)) (t1 : Int) (t13 : Bool) : Option (List UInt8) := match k with
  | 0 => none
  | k + 1 =>
    if t13 = true then (need ((0 : Int) ≤ 1 ∧ 1 ≤ (t0.length : Int)) <|
    strings_trimLeftByte_L1 k (t0.drop (1 : Int).toNat) t1)
    else some t0
end
def a81_q1 (R : Ex → St → Prop) : Ex → St → Prop := Ex.then (wpc (Ev P) a81_k3 R) R
def a81_q2 (R : Ex → St → Prop) : Ex → St → Prop := Ex.inBlock 0 (a81_q1 R)
def a81_q3 (R : Ex → St → Prop) : Ex → St → Prop := Ex.then (wpc (Ev P) (.loop a81_L1) (a81_q2 R)) (a81_q2 R)
def a81_q4 (R : Ex → St → Prop) : Ex → St → Prop := Ex.then (wpc (Ev P) a81_k2 (a81_q3 R)) (a81_q3 R)
def S_strings_trimLeftByte (k : Nat) : Prop := ∀ (x0 : (List UInt8)) (x1 : Int) (r : (List UInt8)), strings_trimLeftByte k x0 x1 = some r → ∀ H, Ev P 81 [(.str x0), (.int .u8 x1)] H (.str r) H
def S_strings_trimLeftByte_L1 (k : Nat) : Prop := ∀ (t0 : (List UInt8)) (t1 : Int) (r : (List UInt8)) (ρ : Nat → Slot) (H : List (Option (List D))) , strings_trimLeftByte_L1 k t0 t1 = some r → wpc (Ev P) (.loop a81_L1) (a81_q2 (retN a81.res (.str r))) ⟨upds ρ [(0, .d (.str t0)), (1, .d (.int .u8 t1))], H⟩
def S_strings_trimLeftByte_J1 (k : Nat) : Prop := ∀ (t0 : (List UInt8)) (t1 : Int) (t13 : Bool) (r : (List UInt8)) (ρ : Nat → Slot) (H : List (Option (List D))) , strings_trimLeftByte_J1 k t0 t1 t13 = some r → wpc (Ev P) a81_k1 (a81_q4 (retN a81.res (.str r))) ⟨upds ρ [(0, .d (.str t0)), (1, .d (.int .u8 t1)), (13, .d (.bool t13))], H⟩
structure C_strings_trimLeftByte (k : Nat) : Prop where
  strings_trimLeftByte : S_strings_trimLeftByte k
  strings_trimLeftByte_L1 : S_strings_trimLeftByte_L1 k
  strings_trimLeftByte_J1 : S_strings_trimLeftByte_J1 k
theorem t_strings_trimLeftByte (k : Nat) (ih : C_strings_trimLeftByte k) : S_strings_trimLeftByte (k + 1) := by
  intro x0 x1 r h H0
  rw [strings_trimLeftByte] at h
  refine evc_intro a81 Go.Proofs.Tryd.func81 c81 (Nat.le_of_ble_eq_true rfl) (cl_cons rfl (cl_cons rfl cl_nil)) rfl ?_ H0
  generalize ([] : List (Option (List D))) = H
  show wpc (Ev P) a81_B (retN a81.res (.str r)) _
  refine c_seq ?_
  refine c_reg ?_
  refine o_mvk ?_
  refine o_nil ?_
  refine k_then ?_
  refine c_seq ?_
  refine c_block ?_
  exact wpc_head (ih.strings_trimLeftByte_L1 _ _ _ _ _ h) ⟨rfl, rfl, trivial⟩
theorem t_strings_trimLeftByte_L1 (k : Nat) (ih : C_strings_trimLeftByte k) : S_strings_trimLeftByte_L1 (k + 1) := by
  intro t0 t1 r ρ H h
  rw [strings_trimLeftByte_L1] at h
  refine wpc_loop_i ?_
  refine c_seq ?_
  refine c_seq ?_
  refine c_reg ?_
  refine o_mvt rfl (copy_of_str _) ?_
  refine o_len (vt rfl (copy_of_str _)) rfl (fun _ => ?_)
  refine o_bin (vt rfl (copy_of_int _ _)) (vk (copy_of_int _ _)) bin_gtr ?_
  refine o_mvt rfl (copy_of_bool _) ?_
  by_cases c1 : (decide ((t0.length : Int) > 0)) = true
  · have h := it_t h c1
    refine o_g_t rfl c1 ?_
    refine o_mvt rfl (copy_of_str _) ?_
    refine o_g_t rfl c1 ?_
    obtain ⟨y10, hy10, h⟩ := bind_some h
    refine o_ixs (vt rfl (copy_of_str _)) (vk (copy_of_int _ _)) hy10 ?_
    refine o_g_t rfl c1 ?_
    refine o_mvt rfl (copy_of_int _ _) ?_
    refine o_g_t rfl c1 ?_
    refine o_bin (vt rfl (copy_of_int _ _)) (vt rfl (copy_of_int _ _)) bin_eql ?_
    refine o_pick_t (vt rfl (copy_of_bool _)) c1 (vt rfl (copy_of_bool _)) ?_
    refine o_nil ?_
    refine k_then ?_
    exact wpc_head (ih.strings_trimLeftByte_J1 _ _ _ _ _ _ h) ⟨rfl, rfl, rfl, trivial⟩
  · have c1 := bf c1
    have h := it_f h c1
    refine o_g_f rfl (ne_f c1) ?_
    refine o_g_f rfl (ne_f c1) ?_
    refine o_g_f rfl (ne_f c1) ?_
    refine o_g_f rfl (ne_f c1) ?_
    refine o_pick_f (vt rfl (copy_of_bool _)) c1 (vk (copy_of_bool _)) ?_
    refine o_nil ?_
    refine k_then ?_
    exact wpc_head (ih.strings_trimLeftByte_J1 _ _ _ _ _ _ h) ⟨rfl, rfl, rfl, trivial⟩
theorem t_strings_trimLeftByte_J1 (k : Nat) (ih : C_strings_trimLeftByte k) : S_strings_trimLeftByte_J1 (k + 1) := by
  intro t0 t1 t13 r ρ H h
  rw [strings_trimLeftByte_J1] at h
  by_cases c1 : t13 = true
  · have h := it_t h c1
    refine c_cond_t (vt rfl (copy_of_bool _)) c1 ?_
    refine c_skip ?_
    refine k_then ?_
    refine c_block ?_
    refine c_reg ?_
    refine o_mvt rfl (copy_of_str _) ?_
    obtain ⟨c2, h⟩ := need_some h
    refine o_sls_l (vt rfl (copy_of_str _)) (vk (copy_of_int _ _)) c2 ?_
    refine o_mvt rfl (copy_of_str _) ?_
    refine o_nil ?_
    refine k_block _ ?_
    refine k_then ?_
    exact wpc_head (ih.strings_trimLeftByte_L1 _ _ _ _ _ h) ⟨rfl, rfl, trivial⟩
  · have c1 := bf c1
    have h := it_f h c1
    refine c_cond_f (vt rfl (copy_of_bool _)) c1 ?_
    refine c_exit ?_
    refine k_then_exit ?_
    refine k_then_exit ?_
    refine k_block_exit _ ?_
    refine k_then ?_
    refine c_seq ?_
    refine c_reg ?_
    refine o_mvt rfl (copy_of_str _) ?_
    refine o_mvt rfl (copy_of_str _) ?_
    refine o_nil ?_
    refine k_then ?_
    refine c_ret ?_
    obtain rfl := Option.some.inj h
    exact r_one rfl (res_t rfl (copy_of_str _)) (.inl rfl)
theorem z_strings_trimLeftByte : S_strings_trimLeftByte 0 := by
  intro x0 x1 r h H
  rw [strings_trimLeftByte] at h; cases h
theorem z_strings_trimLeftByte_L1 : S_strings_trimLeftByte_L1 0 := by
  intro t0 t1 r ρ H h
  rw [strings_trimLeftByte_L1] at h; cases h
theorem z_strings_trimLeftByte_J1 : S_strings_trimLeftByte_J1 0 := by
  intro t0 t1 t13 r ρ H h
  rw [strings_trimLeftByte_J1] at h; cases h
theorem C_strings_trimLeftByte.all : ∀ k, C_strings_trimLeftByte k
  | 0 => ⟨z_strings_trimLeftByte, z_strings_trimLeftByte_L1, z_strings_trimLeftByte_J1⟩
  | k + 1 => ⟨t_strings_trimLeftByte k (C_strings_trimLeftByte.all k), t_strings_trimLeftByte_L1 k (C_strings_trimLeftByte.all k), t_strings_trimLeftByte_J1 k (C_strings_trimLeftByte.all k)⟩
theorem s_strings_trimLeftByte (k : Nat) : S_strings_trimLeftByte k := (C_strings_trimLeftByte.all k).strings_trimLeftByte
def a82_r0 : List AI := [
  { dst := some 4, op := .mv (.k (.str [])) }]
def a82_r1 : List AI := [
  { dst := some 5, op := .mv (.t 0) },
  { dst := some 6, op := .len true (.t 5) },
  { dst := some 7, op := .bin .gtr (.t 6) (.k (.int .i64 0)) },
  { dst := some 8, op := .mv (.t 7) },
  { dst := some 9, g := some (8, true), op := .mv (.t 0) },
  { dst := some 10, g := some (8, true), op := .mv (.t 0) },
  { dst := some 11, g := some (8, true), op := .len true (.t 10) },
  { dst := some 12, g := some (8, true), op := .bin .sub (.t 11) (.k (.int .i64 1)) },
  { dst := some 13, g := some (8, true), op := .ixs (.t 9) (.t 12) },
  { dst := some 14, g := some (8, true), op := .mv (.t 1) },
  { dst := some 15, g := some (8, true), op := .bin .eql (.t 13) (.t 14) },
  { dst := some 16, op := .pick (.t 8) (.t 15) (.k (.bool false)) }]
def a82_k1 : AC := (.cond (.t 16) .skip (.exit 0))
def a82_r2 : List AI := [
  { dst := some 17, op := .mv (.t 0) },
  { dst := some 18, op := .mv (.t 0) },
  { dst := some 19, op := .len true (.t 18) },
  { dst := some 20, op := .bin .sub (.t 19) (.k (.int .i64 1)) },
  { dst := some 21, op := .sls (.t 17) none (some (.t 20)) },
  { dst := some 0, op := .mv (.t 21) }]
def a82_k2 : AC := (.block 1 (.reg a82_r2))
def a82_L1 : AC := (.seq (.seq (.reg a82_r1) a82_k1) a82_k2)
def a82_r3 : List AI := [
  { dst := some 22, op := .mv (.t 0) },
  { dst := some 4, op := .mv (.t 22) }]
def a82_k3 : AC := (.seq (.reg a82_r3) .ret)
def a82_k4 : AC := (.seq (.block 0 (.loop a82_L1)) a82_k3)
def a82_B : AC := (.seq (.reg a82_r0) a82_k4)
/-- strings.trimRightByte -/
def a82 : AF := { N := 23, V := [], body := a82_B, res := [.t 4] }
theorem c82 : chkF P a82 Go.Proofs.Tryd.f82 = true := by kernel_rfl
mutual
/-- strings.trimRightByte -/
def strings_trimRightByte (k : Nat) (x0 : (List UInt8)) (x1 : Int) : Option (List UInt8) := match k with
  | 0 => none
  | k + 1 =>
    strings_trimRightByte_L1 k x0 x1
def strings_trimRightByte_L1 (k : Nat) (t0 : (List UInt8)) (t1 : Int) : Option (List UInt8) := match k with
  | 0 => none
  | k + 1 =>
    if (decide ((t0.length : Int) > 0)) = true then ((at_ t0 (IntKind.i64.wrap ((t0.length : Int) - 1))).bind fun y13 =>
    strings_trimRightByte_J1 k t0 t1 ((y13.toNat : Int) == t1))
    else strings_trimRightByte_J1 k t0 t1 false
def strings_trimRightByte_J1 (k : Nat) (t0 : (List UInt8)) (t1 : Int) (t16 : Bool) : Option (List UInt8) := match k with
  | 0 => none
  | k + 1 =>
    if t16 = true then (need ((0 : Int) ≤ (IntKind.i64.wrap ((t0.length : Int) - 1)) ∧ (IntKind.i64.wrap ((t0.length : Int) - 1)) ≤ (t0.length : Int)) <|
    strings_trimRightByte_L1 k (t0.take ((IntKind.i64.wrap ((t0.length : Int) - 1)) : Int).toNat) t1)
    else some t0
end
def a82_q1 (R : Ex → St → Prop) : Ex → St → Prop := Ex.then (wpc (Ev P) a82_k3 R) R
def a82_q2 (R : Ex → St → Prop) : Ex → St → Prop := Ex.inBlock 0 (a82_q1 R)
def a82_q3 (R : Ex → St → Prop) : Ex → St → Prop := Ex.then (wpc (Ev P) (.loop a82_L1) (a82_q2 R)) (a82_q2 R)
def a82_q4 (R : Ex → St → Prop) : Ex → St → Prop := Ex.then (wpc (Ev P) a82_k2 (a82_q3 R)) (a82_q3 R)
def S_strings_trimRightByte (k : Nat) : Prop := ∀ (x0 : (List UInt8)) (x1 : Int) (r : (List UInt8)), strings_trimRightByte k x0 x1 = some r → ∀ H, Ev P 82 [(.str x0), (.int .u8 x1)] H (.str r) H
def S_strings_trimRightByte_L1 (k : Nat) : Prop := ∀ (t0 : (List UInt8)) (t1 : Int) (r : (List UInt8)) (ρ : Nat → Slot) (H : List (Option (List D))) , strings_trimRightByte_L1 k t0 t1 = some r → wpc (Ev P) (.loop a82_L1) (a82_q2 (retN a82.res (.str r))) ⟨upds ρ [(0, .d (.str t0)), (1, .d (.int .u8 t1))], H⟩
def S_strings_trimRightByte_J1 (k : Nat) : Prop := ∀ (t0 : (List UInt8)) (t1 : Int) (t16 : Bool) (r : (List UInt8)) (ρ : Nat → Slot) (H : List (Option (List D))) , strings_trimRightByte_J1 k t0 t1 t16 = some r → wpc (Ev P) a82_k1 (a82_q4 (retN a82.res (.str r))) ⟨upds ρ [(0, .d (.str t0)), (1, .d (.int .u8 t1)), (16, .d (.bool t16))], H⟩
structure C_strings_trimRightByte (k : Nat) : Prop where
  strings_trimRightByte : S_strings_trimRightByte k
  strings_trimRightByte_L1 : S_strings_trimRightByte_L1 k
  strings_trimRightByte_J1 : S_strings_trimRightByte_J1 k
theorem t_strings_trimRightByte (k : Nat) (ih : C_strings_trimRightByte k) : S_strings_trimRightByte (k + 1) := by
  intro x0 x1 r h H0
  rw [strings_trimRightByte] at h
  refine evc_intro a82 Go.Proofs.Tryd.func82 c82 (Nat.le_of_ble_eq_true rfl) (cl_cons rfl (cl_cons rfl cl_nil)) rfl ?_ H0
  generalize ([] : List (Option (List D))) = H
  show wpc (Ev P) a82_B (retN a82.res (.str r)) _
  refine c_seq ?_
  refine c_reg ?_
  refine o_mvk ?_
  refine o_nil ?_
  refine k_then ?_
  refine c_seq ?_
  refine c_block ?_
  exact wpc_head (ih.strings_trimRightByte_L1 _ _ _ _ _ h) ⟨rfl, rfl, trivial⟩
theorem t_strings_trimRightByte_L1 (k : Nat) (ih : C_strings_trimRightByte k) : S_strings_trimRightByte_L1 (k + 1) := by
  intro t0 t1 r ρ H h
  rw [strings_trimRightByte_L1] at h
  refine wpc_loop_i ?_
  refine c_seq ?_
  refine c_seq ?_
  refine c_reg ?_
  refine o_mvt rfl (copy_of_str _) ?_
  refine o_len (vt rfl (copy_of_str _)) rfl (fun _ => ?_)
  refine o_bin (vt rfl (copy_of_int _ _)) (vk (copy_of_int _ _)) bin_gtr ?_
  refine o_mvt rfl (copy_of_bool _) ?_
  by_cases c1 : (decide ((t0.length : Int) > 0)) = true
  · have h := it_t h c1
    refine o_g_t rfl c1 ?_
    refine o_mvt rfl (copy_of_str _) ?_
    refine o_g_t rfl c1 ?_
    refine o_mvt rfl (copy_of_str _) ?_
    refine o_g_t rfl c1 ?_
    refine o_len (vt rfl (copy_of_str _)) rfl (fun _ => ?_)
    refine o_g_t rfl c1 ?_
    refine o_bin (vt rfl (copy_of_int _ _)) (vk (copy_of_int _ _)) bin_sub ?_
    refine o_g_t rfl c1 ?_
    obtain ⟨y13, hy13, h⟩ := bind_some h
    refine o_ixs (vt rfl (copy_of_str _)) (vt rfl (copy_of_int _ _)) hy13 ?_
    refine o_g_t rfl c1 ?_
    refine o_mvt rfl (copy_of_int _ _) ?_
    refine o_g_t rfl c1 ?_
    refine o_bin (vt rfl (copy_of_int _ _)) (vt rfl (copy_of_int _ _)) bin_eql ?_
    refine o_pick_t (vt rfl (copy_of_bool _)) c1 (vt rfl (copy_of_bool _)) ?_
    refine o_nil ?_
    refine k_then ?_
    exact wpc_head (ih.strings_trimRightByte_J1 _ _ _ _ _ _ h) ⟨rfl, rfl, rfl, trivial⟩
  · have c1 := bf c1
    have h := it_f h c1
    refine o_g_f rfl (ne_f c1) ?_
    refine o_g_f rfl (ne_f c1) ?_
    refine o_g_f rfl (ne_f c1) ?_
    refine o_g_f rfl (ne_f c1) ?_
    refine o_g_f rfl (ne_f c1) ?_
    refine o_g_f rfl (ne_f c1) ?_
    refine o_g_f rfl (ne_f c1) ?_
    refine o_pick_f (vt rfl (copy_of_bool _)) c1 (vk (copy_of_bool _)) ?_
    refine o_nil ?_
    refine k_then ?_
    exact wpc_head (ih.strings_trimRightByte_J1 _ _ _ _ _ _ h) ⟨rfl, rfl, rfl, trivial⟩
theorem t_strings_trimRightByte_J1 (k : Nat) (ih : C_strings_trimRightByte k) : S_strings_trimRightByte_J1 (k + 1) := by
  intro t0 t1 t16 r ρ H h
  rw [strings_trimRightByte_J1] at h
  by_cases c1 : t16 = true
  · have h := it_t h c1
    refine c_cond_t (vt rfl (copy_of_bool _)) c1 ?_
    refine c_skip ?_
    refine k_then ?_
    refine c_block ?_
    refine c_reg ?_
    refine o_mvt rfl (copy_of_str _) ?_
    refine o_mvt rfl (copy_of_str _) ?_
    refine o_len (vt rfl (copy_of_str _)) rfl (fun _ => ?_)
    refine o_bin (vt rfl (copy_of_int _ _)) (vk (copy_of_int _ _)) bin_sub ?_
    obtain ⟨c2, h⟩ := need_some h
    refine o_sls_h (vt rfl (copy_of_str _)) (vt rfl (copy_of_int _ _)) c2 ?_
    refine o_mvt rfl (copy_of_str _) ?_
    refine o_nil ?_
    refine k_block _ ?_
    refine k_then ?_
    exact wpc_head (ih.strings_trimRightByte_L1 _ _ _ _ _ h) ⟨rfl, rfl, trivial⟩
  · have c1 := bf c1
    have h := it_f h c1
    refine c_cond_f (vt rfl (copy_of_bool _)) c1 ?_
    refine c_exit ?_
    refine k_then_exit ?_
    refine k_then_exit ?_
    refine k_block_exit _ ?_
    refine k_then ?_
    refine c_seq ?_
    refine c_reg ?_
    refine o_mvt rfl (copy_of_str _) ?_
    refine o_mvt rfl (copy_of_str _) ?_
    refine o_nil ?_
    refine k_then ?_
    refine c_ret ?_
    obtain rfl := Option.some.inj h
    exact r_one rfl (res_t rfl (copy_of_str _)) (.inl rfl)
theorem z_strings_trimRightByte : S_strings_trimRightByte 0 := by
  intro x0 x1 r h H
  rw [strings_trimRightByte] at h; cases h
theorem z_strings_trimRightByte_L1 : S_strings_trimRightByte_L1 0 := by
  intro t0 t1 r ρ H h
  rw [strings_trimRightByte_L1] at h; cases h
theorem z_strings_trimRightByte_J1 : S_strings_trimRightByte_J1 0 := by
  intro t0 t1 t16 r ρ H h
  rw [strings_trimRightByte_J1] at h; cases h
theorem C_strings_trimRightByte.all : ∀ k, C_strings_trimRightByte k
  | 0 => ⟨z_strings_trimRightByte, z_strings_trimRightByte_L1, z_strings_trimRightByte_J1⟩
  | k + 1 => ⟨t_strings_trimRightByte k (C_strings_trimRightByte.all k), t_strings_trimRightByte_L1 k (C_strings_trimRightByte.all k), t_strings_trimRightByte_J1 k (C_strings_trimRightByte.all k)⟩
theorem s_strings_trimRightByte (k : Nat) : S_strings_trimRightByte k := (C_strings_trimRightByte.all k).strings_trimRightByte
def a83_r0 : List AI := [
  { dst := some 2, op := .alloc (List.replicate 256 (.bool false)) },
  { dst := some 3, op := .mv (.k (.bool false)) }]
def a83_r1 : List AI := [
  { dst := some 4, op := .mv (.k (.int .i64 0)) }]
def a83_r2 : List AI := [
  { dst := some 6, op := .mv (.t 4) },
  { dst := some 7, op := .mv (.t 0) },
  { dst := some 8, op := .len true (.t 7) },
  { dst := some 9, op := .bin .lss (.t 6) (.t 8) }]
def a83_k1 : AC := (.cond (.t 9) .skip (.exit 0))
def a83_r4 : List AI := [
  { dst := some 12, op := .mv (.t 0) },
  { dst := some 13, op := .mv (.t 4) },
  { dst := some 14, op := .ixs (.t 12) (.t 13) },
  { dst := some 5, op := .mv (.t 14) }]
def a83_r5 : List AI := [
  { dst := some 15, op := .mv (.t 5) },
  { dst := some 16, op := .bin .geq (.t 15) (.k (.int .u8 128)) }]
def a83_r6 : List AI := [
  { dst := some 17, op := .ld (some 256) 2 },
  { dst := none, op := .st 256 2 (.t 17) },
  { dst := some 3, op := .mv (.k (.bool false)) }]
def a83_k2 : AC := (.cond (.t 16) (.seq (.reg a83_r6) .ret) .skip)
def a83_r7 : List AI := [
  { dst := some 18, op := .mv (.t 5) },
  { dst := some 19, op := .iaa 256 1 2 (.t 18) },
  { dst := none, op := .st 1 19 (.k (.bool true)) }]
def a83_k3 : AC := (.seq (.seq (.reg a83_r5) a83_k2) (.reg a83_r7))
def a83_r3 : List AI := [
  { dst := some 10, op := .mv (.t 4) },
  { dst := some 11, op := .bin .add (.t 10) (.k (.int .i64 1)) },
  { dst := some 4, op := .mv (.t 11) }]
def a83_k4 : AC := (.seq (.block 1 (.seq (.reg a83_r4) a83_k3)) (.reg a83_r3))
def a83_L1 : AC := (.seq (.seq (.reg a83_r2) a83_k1) a83_k4)
def a83_k5 : AC := (.block 0 (.loop a83_L1))
def a83_r8 : List AI := [
  { dst := some 20, op := .ld (some 256) 2 },
  { dst := none, op := .st 256 2 (.t 20) },
  { dst := some 3, op := .mv (.k (.bool true)) }]
def a83_k6 : AC := (.seq (.reg a83_r8) .ret)
def a83_k7 : AC := (.seq (.seq (.reg a83_r1) a83_k5) a83_k6)
def a83_B : AC := (.seq (.reg a83_r0) a83_k7)
/-- strings.makeASCIISet -/
def a83 : AF := { N := 21, V := [2], body := a83_B, res := [.c (some 256) 2, .t 3] }
theorem c83 : chkF P a83 Go.Proofs.Tryd.f83 = true := by kernel_rfl
mutual
/-- strings.makeASCIISet -/
def strings_makeASCIISet (k : Nat) (x0 : (List UInt8)) : Option ((Arr Bool 256) × Bool) := match k with
  | 0 => none
  | k + 1 =>
    strings_makeASCIISet_L1 k x0 (Arr.rep 256 false) 0
def strings_makeASCIISet_L1 (k : Nat) (t0 : (List UInt8)) (v2 : (Arr Bool 256)) (t4 : Int) : Option ((Arr Bool 256) × Bool) := match k with
  | 0 => none
  | k + 1 =>
    if (decide (t4 < (t0.length : Int))) = true then ((at_ t0 t4).bind fun y14 =>
    if (decide ((y14.toNat : Int) ≥ 128)) = true then (some (v2, false))
    else need ((0 : Int) ≤ (y14.toNat : Int) ∧ (y14.toNat : Int) < ((256 : Nat) : Int)) <|
    strings_makeASCIISet_L1 k t0 (v2.set (y14.toNat : Int) true) (IntKind.i64.wrap (t4 + 1)))
    else some (v2, true)
end
def a83_q1 (R : Ex → St → Prop) : Ex → St → Prop := Ex.then (wpc (Ev P) a83_k6 R) R
def a83_q2 (R : Ex → St → Prop) : Ex → St → Prop := Ex.inBlock 0 (a83_q1 R)
def S_strings_makeASCIISet (k : Nat) : Prop := ∀ (x0 : (List UInt8)) (r : ((Arr Bool 256) × Bool)), strings_makeASCIISet k x0 = some r → ∀ H, Ev P 83 [(.str x0)] H (.tup [(.agg (r.1.l.map D.bool)), (.bool r.2)]) H
def S_strings_makeASCIISet_L1 (k : Nat) : Prop := ∀ (t0 : (List UInt8)) (v2 : (Arr Bool 256)) (t4 : Int) (r : ((Arr Bool 256) × Bool)) (ρ : Nat → Slot) (H : List (Option (List D))) , strings_makeASCIISet_L1 k t0 v2 t4 = some r → wpc (Ev P) (.loop a83_L1) (a83_q2 (retN a83.res (.tup [(.agg (r.1.l.map D.bool)), (.bool r.2)]))) ⟨upds ρ [(0, .d (.str t0)), (2, .var (v2.l.map D.bool)), (4, .d (.int .i64 t4))], H⟩
structure C_strings_makeASCIISet (k : Nat) : Prop where
  strings_makeASCIISet : S_strings_makeASCIISet k
  strings_makeASCIISet_L1 : S_strings_makeASCIISet_L1 k
theorem t_strings_makeASCIISet (k : Nat) (ih : C_strings_makeASCIISet k) : S_strings_makeASCIISet (k + 1) := by
  intro x0 r h H0
  rw [strings_makeASCIISet] at h
  refine evc_intro a83 Go.Proofs.Tryd.func83 c83 (Nat.le_of_ble_eq_true rfl) (cl_cons rfl cl_nil) (by simp only [D.closed, D.closedL, Bool.and_self, closedL_mi, closedL_mb]) ?_ H0
  generalize ([] : List (Option (List D))) = H
  show wpc (Ev P) a83_B (retN a83.res (.tup [(.agg (r.1.l.map D.bool)), (.bool r.2)])) _
  refine c_seq ?_
  refine c_reg ?_
  refine o_alloc (cs := (Arr.rep 256 false).l.map D.bool) (by simp [Arr.rep, lw, ow]) ?_
  refine o_mvk ?_
  refine o_nil ?_
  refine k_then ?_
  refine c_seq ?_
  refine c_seq ?_
  refine c_reg ?_
  refine o_mvk ?_
  refine o_nil ?_
  refine k_then ?_
  refine c_block ?_
  exact wpc_head (ih.strings_makeASCIISet_L1 _ _ _ _ _ _ h) ⟨rfl, rfl, rfl, trivial⟩
theorem t_strings_makeASCIISet_L1 (k : Nat) (ih : C_strings_makeASCIISet k) : S_strings_makeASCIISet_L1 (k + 1) := by
  intro t0 v2 t4 r ρ H h
  rw [strings_makeASCIISet_L1] at h
  refine wpc_loop_i ?_
  refine c_seq ?_
  refine c_seq ?_
  refine c_reg ?_
  refine o_mvt rfl (copy_of_int _ _) ?_
  refine o_mvt rfl (copy_of_str _) ?_
  refine o_len (vt rfl (copy_of_str _)) rfl (fun _ => ?_)
  refine o_bin (vt rfl (copy_of_int _ _)) (vt rfl (copy_of_int _ _)) bin_lss ?_
  refine o_nil ?_
  refine k_then ?_
  by_cases c1 : (decide (t4 < (t0.length : Int))) = true
  · have h := it_t h c1
    refine c_cond_t (vt rfl (copy_of_bool _)) c1 ?_
    refine c_skip ?_
    refine k_then ?_
    refine c_seq ?_
    refine c_block ?_
    refine c_seq ?_
    refine c_reg ?_
    refine o_mvt rfl (copy_of_str _) ?_
    refine o_mvt rfl (copy_of_int _ _) ?_
    obtain ⟨y14, hy14, h⟩ := bind_some h
    refine o_ixs (vt rfl (copy_of_str _)) (vt rfl (copy_of_int _ _)) hy14 ?_
    refine o_mvt rfl (copy_of_int _ _) ?_
    refine o_nil ?_
    refine k_then ?_
    refine c_seq ?_
    refine c_seq ?_
    refine c_reg ?_
    refine o_mvt rfl (copy_of_int _ _) ?_
    refine o_bin (vt rfl (copy_of_int _ _)) (vk (copy_of_int _ _)) bin_geq ?_
    refine o_nil ?_
    refine k_then ?_
    by_cases c2 : (decide ((y14.toNat : Int) ≥ 128)) = true
    · have h := it_t h c2
      refine c_cond_t (vt rfl (copy_of_bool _)) c2 ?_
      refine c_seq ?_
      refine c_reg ?_
      refine o_ld (lv_v rfl) rfl (cut_all len_arr) cm_bool ?_
      refine o_st rfl (lv_v rfl) (gt_ rfl (copy_of_agg _)) (cells_of_agg _) len_arr om_bool rfl (splice_all (n := 256) len_arr len_arr) ?_
      refine o_mvk ?_
      refine o_nil ?_
      refine k_then ?_
      refine c_ret ?_
      refine k_then_ret ?_
      refine k_block_ret ?_
      refine k_then_ret ?_
      refine k_then_ret ?_
      refine k_block_ret ?_
      refine k_then_ret ?_
      obtain rfl := Option.some.inj h
      exact r_many rfl (rl_cons (res_c rfl (cut_all len_arr) cm_bool) (rl_cons (res_t rfl (copy_of_bool _)) rl_nil)) rfl
    · have c2 := bf c2
      have h := it_f h c2
      refine c_cond_f (vt rfl (copy_of_bool _)) c2 ?_
      refine c_skip ?_
      refine k_then ?_
      refine c_reg ?_
      refine o_mvt rfl (copy_of_int _ _) ?_
      obtain ⟨c3, h⟩ := need_some h
      refine o_iaa (lv_v rfl) (vt rfl (copy_of_int _ _)) c3 ?_
      refine o_st rfl (lv_l rfl) gk_ (cells_of_bool _) rfl rfl rfl (splice_map' (Int.toNat_lt c3.1 |>.2 c3.2)) ?_
      refine o_nil ?_
      refine k_block _ ?_
      refine k_then ?_
      refine c_reg ?_
      refine o_mvt rfl (copy_of_int _ _) ?_
      refine o_bin (vt rfl (copy_of_int _ _)) (vk (copy_of_int _ _)) bin_add ?_
      refine o_mvt rfl (copy_of_int _ _) ?_
      refine o_nil ?_
      refine k_then ?_
      exact wpc_head (ih.strings_makeASCIISet_L1 _ _ _ _ _ _ h) ⟨rfl, rfl, rfl, trivial⟩
  · have c1 := bf c1
    have h := it_f h c1
    refine c_cond_f (vt rfl (copy_of_bool _)) c1 ?_
    refine c_exit ?_
    refine k_then_exit ?_
    refine k_then_exit ?_
    refine k_block_exit _ ?_
    refine k_then ?_
    refine c_seq ?_
    refine c_reg ?_
    refine o_ld (lv_v rfl) rfl (cut_all len_arr) cm_bool ?_
    refine o_st rfl (lv_v rfl) (gt_ rfl (copy_of_agg _)) (cells_of_agg _) len_arr om_bool rfl (splice_all (n := 256) len_arr len_arr) ?_
    refine o_mvk ?_
    refine o_nil ?_
    refine k_then ?_
    refine c_ret ?_
    obtain rfl := Option.some.inj h
    exact r_many rfl (rl_cons (res_c rfl (cut_all len_arr) cm_bool) (rl_cons (res_t rfl (copy_of_bool _)) rl_nil)) rfl
theorem z_strings_makeASCIISet : S_strings_makeASCIISet 0 := by
  intro x0 r h H
  rw [strings_makeASCIISet] at h; cases h
theorem z_strings_makeASCIISet_L1 : S_strings_makeASCIISet_L1 0 := by
  intro t0 v2 t4 r ρ H h
  rw [strings_makeASCIISet_L1] at h; cases h
theorem C_strings_makeASCIISet.all : ∀ k, C_strings_makeASCIISet k
  | 0 => ⟨z_strings_makeASCIISet, z_strings_makeASCIISet_L1⟩
  | k + 1 => ⟨t_strings_makeASCIISet k (C_strings_makeASCIISet.all k), t_strings_makeASCIISet_L1 k (C_strings_makeASCIISet.all k)⟩
theorem s_strings_makeASCIISet (k : Nat) : S_strings_makeASCIISet k := (C_strings_makeASCIISet.all k).strings_makeASCIISet
def a101_r0 : List AI := [
  { dst := some 4, op := .mv (.k (.bool false)) }]
def a101_r1 : List AI := [
  { dst := some 5, op := .mv (.t 0) },
  { dst := some 6, op := .mv (.t 1) },
  { dst := some 7, op := .nilc 5 },
  { dst := some 8, op := .iaa 256 1 7 (.t 6) },
  { dst := some 9, op := .ld none 8 },
  { dst := some 4, op := .mv (.t 9) }]
def a101_k1 : AC := (.seq (.reg a101_r1) .ret)
def a101_B : AC := (.seq (.reg a101_r0) a101_k1)
/-- (*strings.asciiSet).contains -/
def a101 : AF := { N := 10, V := [], body := a101_B, res := [.t 4] }
theorem c101 : chkF P a101 Go.Proofs.Tryd.f101 = true := by kernel_rfl
/-- (*strings.asciiSet).contains -/
def strings_asciiSet_contains (k : Nat) (o0 : (Arr Bool 256)) (x1 : Int) : Option Bool := match k with
  | 0 => none
  | k + 1 =>
    need ((0 : Int) ≤ x1 ∧ x1 < ((256 : Nat) : Int)) <|
    some (o0.gd x1 false)
def S_strings_asciiSet_contains (k : Nat) : Prop := ∀ (b0 : Nat) (o0 : (Arr Bool 256)) (x1 : Int) (H : List (Option (List D))) (hb0 : objH H b0 = some (o0.l.map D.bool)) (r : Bool), strings_asciiSet_contains k o0 x1 = some r → Ev P 101 [(.ptr b0 0), (.int .u8 x1)] H (.bool r) H
structure C_strings_asciiSet_contains (k : Nat) : Prop where
  strings_asciiSet_contains : S_strings_asciiSet_contains k
theorem t_strings_asciiSet_contains (k : Nat) (ih : C_strings_asciiSet_contains k) : S_strings_asciiSet_contains (k + 1) := by
  intro b0 o0 x1 H hb0 r h
  rw [strings_asciiSet_contains] at h
  refine ev_intro a101 Go.Proofs.Tryd.func101 c101 (Nat.le_of_ble_eq_true rfl) ?_
  show wpc (Ev P) a101_B (retQ a101.res (.bool r) H) _
  refine c_seq ?_
  refine c_reg ?_
  refine o_mvk ?_
  refine o_nil ?_
  refine k_then ?_
  refine c_seq ?_
  refine c_reg ?_
  refine o_mvt rfl (copy_of_ptr _ _) ?_
  refine o_mvt rfl (copy_of_int _ _) ?_
  refine o_nilc rfl rfl ?_
  obtain ⟨c1, h⟩ := need_some h
  refine o_iaao rfl (vt rfl (copy_of_int _ _)) c1 ?_
  refine o_ldo1 rfl hb0 (cut_map' (arr_gd (z := false) c1)) (copy_of_bool _) ?_
  refine o_mvt rfl (copy_of_bool _) ?_
  refine o_nil ?_
  refine k_then ?_
  refine c_ret ?_
  obtain rfl := Option.some.inj h
  exact rq_one rfl (res_t rfl (copy_of_bool _)) (.inl rfl) rfl
theorem z_strings_asciiSet_contains : S_strings_asciiSet_contains 0 := by
  intro b0 o0 x1 H hb0 r h
  rw [strings_asciiSet_contains] at h; cases h
theorem C_strings_asciiSet_contains.all : ∀ k, C_strings_asciiSet_contains k
  | 0 => ⟨z_strings_asciiSet_contains⟩
  | k + 1 => ⟨t_strings_asciiSet_contains k (C_strings_asciiSet_contains.all k)⟩
theorem s_strings_asciiSet_contains (k : Nat) : S_strings_asciiSet_contains k := (C_strings_asciiSet_contains.all k).strings_asciiSet_contains
def a84_r0 : List AI := [
  { dst := some 4, op := .mv (.k (.str [])) }]
def a84_r1 : List AI := [
  { dst := some 5, op := .mv (.t 0) },
  { dst := some 6, op := .len true (.t 5) },
  { dst := some 7, op := .bin .gtr (.t 6) (.k (.int .i64 0)) }]
def a84_k1 : AC := (.cond (.t 7) .skip (.exit 0))
def a84_r2 : List AI := [
  { dst := some 8, op := .mv (.t 1) },
  { dst := some 9, op := .mv (.t 0) },
  { dst := some 10, op := .ixs (.t 9) (.k (.int .i64 0)) },
  { dst := some 11, op := .call 101 [(.t 8), (.t 10)] },
  { dst := some 12, op := .un .not (.t 11) }]
def a84_k2 : AC := (.cond (.t 12) (.exit 0) .skip)
def a84_r3 : List AI := [
  { dst := some 13, op := .mv (.t 0) },
  { dst := some 14, op := .sls (.t 13) (some (.k (.int .i64 1))) none },
  { dst := some 0, op := .mv (.t 14) }]
def a84_k3 : AC := (.block 1 (.seq (.seq (.reg a84_r2) a84_k2) (.reg a84_r3)))
def a84_L1 : AC := (.seq (.seq (.reg a84_r1) a84_k1) a84_k3)
def a84_r4 : List AI := [
  { dst := some 15, op := .mv (.t 0) },
  { dst := some 4, op := .mv (.t 15) }]
def a84_k4 : AC := (.seq (.reg a84_r4) .ret)
def a84_k5 : AC := (.seq (.block 0 (.loop a84_L1)) a84_k4)
def a84_B : AC := (.seq (.reg a84_r0) a84_k5)
/-- strings.trimLeftASCII -/
def a84 : AF := { N := 16, V := [], body := a84_B, res := [.t 4] }
theorem c84 : chkF P a84 Go.Proofs.Tryd.f84 = true := by kernel_rfl
mutual
/-- strings.trimLeftASCII -/
def strings_trimLeftASCII (k : Nat) (x0 : (List UInt8)) (o1 : (Arr Bool 256)) : Option (List UInt8) := match k with
  | 0 => none
  | k + 1 =>
    strings_trimLeftASCII_L1 k o1 x0
def strings_trimLeftASCII_L1 (k : Nat) (o1 : (Arr Bool 256)) (t0 : (List UInt8)) : Option (List UInt8) := match k with
  | 0 => none
  | k + 1 =>
    if (decide ((t0.length : Int) > 0)) = true then ((at_ t0 0).bind fun y10 =>
    (strings_asciiSet_contains k o1 (y10.toNat : Int)).bind fun y11 =>
    if (!y11) = true then (some t0)
    else need ((0 : Int) ≤ 1 ∧ 1 ≤ (t0.length : Int)) <|
    strings_trimLeftASCII_L1 k o1 (t0.drop (1 : Int).toNat))
    else some t0
end
def a84_q1 (R : Ex → St → Prop) : Ex → St → Prop := Ex.then (wpc (Ev P) a84_k4 R) R
def a84_q2 (R : Ex → St → Prop) : Ex → St → Prop := Ex.inBlock 0 (a84_q1 R)
def S_strings_trimLeftASCII (k : Nat) : Prop := ∀ (x0 : (List UInt8)) (b1 : Nat) (o1 : (Arr Bool 256)) (H : List (Option (List D))) (hb1 : objH H b1 = some (o1.l.map D.bool)) (r : (List UInt8)), strings_trimLeftASCII k x0 o1 = some r → Ev P 84 [(.str x0), (.ptr b1 0)] H (.str r) H
def S_strings_trimLeftASCII_L1 (k : Nat) : Prop := ∀ (b1 : Nat) (o1 : (Arr Bool 256)) (t0 : (List UInt8)) (r : (List UInt8)) (ρ : Nat → Slot) (H : List (Option (List D))) (hb1 : objH H b1 = some (o1.l.map D.bool)), strings_trimLeftASCII_L1 k o1 t0 = some r → wpc (Ev P) (.loop a84_L1) (a84_q2 (retQ a84.res (.str r) H)) ⟨upds ρ [(0, .d (.str t0)), (1, .d (.ptr b1 0))], H⟩
structure C_strings_trimLeftASCII (k : Nat) : Prop where
  strings_trimLeftASCII : S_strings_trimLeftASCII k
  strings_trimLeftASCII_L1 : S_strings_trimLeftASCII_L1 k
theorem t_strings_trimLeftASCII (k : Nat) (ih : C_strings_trimLeftASCII k) : S_strings_trimLeftASCII (k + 1) := by
  intro x0 b1 o1 H hb1 r h
  rw [strings_trimLeftASCII] at h
  refine ev_intro a84 Go.Proofs.Tryd.func84 c84 (Nat.le_of_ble_eq_true rfl) ?_
  show wpc (Ev P) a84_B (retQ a84.res (.str r) H) _
  refine c_seq ?_
  refine c_reg ?_
  refine o_mvk ?_
  refine o_nil ?_
  refine k_then ?_
  refine c_seq ?_
  refine c_block ?_
  exact wpc_head (ih.strings_trimLeftASCII_L1 _ _ _ _ _ _ hb1 h) ⟨rfl, rfl, trivial⟩
theorem t_strings_trimLeftASCII_L1 (k : Nat) (ih : C_strings_trimLeftASCII k) : S_strings_trimLeftASCII_L1 (k + 1) := by
  intro b1 o1 t0 r ρ H hb1 h
  rw [strings_trimLeftASCII_L1] at h
  refine wpc_loop_i ?_
  refine c_seq ?_
  refine c_seq ?_
  refine c_reg ?_
  refine o_mvt rfl (copy_of_str _) ?_
  refine o_len (vt rfl (copy_of_str _)) rfl (fun _ => ?_)
  refine o_bin (vt rfl (copy_of_int _ _)) (vk (copy_of_int _ _)) bin_gtr ?_
  refine o_nil ?_
  refine k_then ?_
  by_cases c1 : (decide ((t0.length : Int) > 0)) = true
  · have h := it_t h c1
    refine c_cond_t (vt rfl (copy_of_bool _)) c1 ?_
    refine c_skip ?_
    refine k_then ?_
    refine c_block ?_
    refine c_seq ?_
    refine c_seq ?_
    refine c_reg ?_
    refine o_mvt rfl (copy_of_ptr _ _) ?_
    refine o_mvt rfl (copy_of_str _) ?_
    obtain ⟨y10, hy10, h⟩ := bind_some h
    refine o_ixs (vt rfl (copy_of_str _)) (vk (copy_of_int _ _)) hy10 ?_
    obtain ⟨y11, hy11, h⟩ := bind_some h
    refine o_call rfl (g_cons (gt_ rfl (copy_of_ptr _ _)) (g_cons (gt_ rfl (copy_of_int _ _)) g_nil)) (s_strings_asciiSet_contains k _ _ _ _ hb1 _ hy11) ?_
    refine o_un (vt rfl (copy_of_bool _)) un_not ?_
    refine o_nil ?_
    refine k_then ?_
    by_cases c2 : (!y11) = true
    · have h := it_t h c2
      refine c_cond_t (vt rfl (copy_of_bool _)) c2 ?_
      refine c_exit ?_
      refine k_then_exit ?_
      refine k_block_exit' (by decide) ?_
      refine k_then_exit ?_
      refine k_block_exit _ ?_
      refine k_then ?_
      refine c_seq ?_
      refine c_reg ?_
      refine o_mvt rfl (copy_of_str _) ?_
      refine o_mvt rfl (copy_of_str _) ?_
      refine o_nil ?_
      refine k_then ?_
      refine c_ret ?_
      obtain rfl := Option.some.inj h
      exact rq_one rfl (res_t rfl (copy_of_str _)) (.inl rfl) rfl
    · have c2 := bf c2
      have h := it_f h c2
      refine c_cond_f (vt rfl (copy_of_bool _)) c2 ?_
      refine c_skip ?_
      refine k_then ?_
      refine c_reg ?_
      refine o_mvt rfl (copy_of_str _) ?_
      obtain ⟨c3, h⟩ := need_some h
      refine o_sls_l (vt rfl (copy_of_str _)) (vk (copy_of_int _ _)) c3 ?_
      refine o_mvt rfl (copy_of_str _) ?_
      refine o_nil ?_
      refine k_block _ ?_
      refine k_then ?_
      exact wpc_head (ih.strings_trimLeftASCII_L1 _ _ _ _ _ _ hb1 h) ⟨rfl, rfl, trivial⟩
  · have c1 := bf c1
    have h := it_f h c1
    refine c_cond_f (vt rfl (copy_of_bool _)) c1 ?_
    refine c_exit ?_
    refine k_then_exit ?_
    refine k_then_exit ?_
    refine k_block_exit _ ?_
    refine k_then ?_
    refine c_seq ?_
    refine c_reg ?_
    refine o_mvt rfl (copy_of_str _) ?_
    refine o_mvt rfl (copy_of_str _) ?_
    refine o_nil ?_
    refine k_then ?_
    refine c_ret ?_
    obtain rfl := Option.some.inj h
    exact rq_one rfl (res_t rfl (copy_of_str _)) (.inl rfl) rfl
theorem z_strings_trimLeftASCII : S_strings_trimLeftASCII 0 := by
  intro x0 b1 o1 H hb1 r h
  rw [strings_trimLeftASCII] at h; cases h
theorem z_strings_trimLeftASCII_L1 : S_strings_trimLeftASCII_L1 0 := by
  intro b1 o1 t0 r ρ H hb1 h
  rw [strings_trimLeftASCII_L1] at h; cases h
theorem C_strings_trimLeftASCII.all : ∀ k, C_strings_trimLeftASCII k
  | 0 => ⟨z_strings_trimLeftASCII, z_strings_trimLeftASCII_L1⟩
  | k + 1 => ⟨t_strings_trimLeftASCII k (C_strings_trimLeftASCII.all k), t_strings_trimLeftASCII_L1 k (C_strings_trimLeftASCII.all k)⟩
theorem s_strings_trimLeftASCII (k : Nat) : S_strings_trimLeftASCII k := (C_strings_trimLeftASCII.all k).strings_trimLeftASCII
def a85_r0 : List AI := [
  { dst := some 4, op := .mv (.k (.str [])) }]
def a85_r1 : List AI := [
  { dst := some 5, op := .mv (.t 0) },
  { dst := some 6, op := .len true (.t 5) },
  { dst := some 7, op := .bin .gtr (.t 6) (.k (.int .i64 0)) }]
def a85_k1 : AC := (.cond (.t 7) .skip (.exit 0))
def a85_r2 : List AI := [
  { dst := some 8, op := .mv (.t 1) },
  { dst := some 9, op := .mv (.t 0) },
  { dst := some 10, op := .mv (.t 0) },
  { dst := some 11, op := .len true (.t 10) },
  { dst := some 12, op := .bin .sub (.t 11) (.k (.int .i64 1)) },
  { dst := some 13, op := .ixs (.t 9) (.t 12) },
  { dst := some 14, op := .call 101 [(.t 8), (.t 13)] },
  { dst := some 15, op := .un .not (.t 14) }]
def a85_k2 : AC := (.cond (.t 15) (.exit 0) .skip)
def a85_r3 : List AI := [
  { dst := some 16, op := .mv (.t 0) },
  { dst := some 17, op := .mv (.t 0) },
  { dst := some 18, op := .len true (.t 17) },
  { dst := some 19, op := .bin .sub (.t 18) (.k (.int .i64 1)) },
  { dst := some 20, op := .sls (.t 16) none (some (.t 19)) },
  { dst := some 0, op := .mv (.t 20) }]
def a85_k3 : AC := (.block 1 (.seq (.seq (.reg a85_r2) a85_k2) (.reg a85_r3)))
def a85_L1 : AC := (.seq (.seq (.reg a85_r1) a85_k1) a85_k3)
def a85_r4 : List AI := [
  { dst := some 21, op := .mv (.t 0) },
  { dst := some 4, op := .mv (.t 21) }]
def a85_k4 : AC := (.seq (.reg a85_r4) .ret)
def a85_k5 : AC := (.seq (.block 0 (.loop a85_L1)) a85_k4)
def a85_B : AC := (.seq (.reg a85_r0) a85_k5)
/-- strings.trimRightASCII -/
def a85 : AF := { N := 22, V := [], body := a85_B, res := [.t 4] }
theorem c85 : chkF P a85 Go.Proofs.Tryd.f85 = true := by kernel_rfl
mutual
/-- strings.trimRightASCII -/
def strings_trimRightASCII (k : Nat) (x0 : (List UInt8)) (o1 : (Arr Bool 256)) : Option (List UInt8) := match k with
  | 0 => none
  | k + 1 =>
    strings_trimRightASCII_L1 k o1 x0
def strings_trimRightASCII_L1 (k : Nat) (o1 : (Arr Bool 256)) (t0 : (List UInt8)) : Option (List UInt8) := match k with
  | 0 => none
  | k + 1 =>
    if (decide ((t0.length : Int) > 0)) = true then ((at_ t0 (IntKind.i64.wrap ((t0.length : Int) - 1))).bind fun y13 =>
    (strings_asciiSet_contains k o1 (y13.toNat : Int)).bind fun y14 =>
    if (!y14) = true then (some t0)
    else need ((0 : Int) ≤ (IntKind.i64.wrap ((t0.length : Int) - 1)) ∧ (IntKind.i64.wrap ((t0.length : Int) - 1)) ≤ (t0.length : Int)) <|
    strings_trimRightASCII_L1 k o1 (t0.take ((IntKind.i64.wrap ((t0.length : Int) - 1)) : Int).toNat))
    else some t0
end
def a85_q1 (R : Ex → St → Prop) : Ex → St → Prop := Ex.then (wpc (Ev P) a85_k4 R) R
def a85_q2 (R : Ex → St → Prop) : Ex → St → Prop := Ex.inBlock 0 (a85_q1 R)
def S_strings_trimRightASCII (k : Nat) : Prop := ∀ (x0 : (List UInt8)) (b1 : Nat) (o1 : (Arr Bool 256)) (H : List (Option (List D))) (hb1 : objH H b1 = some (o1.l.map D.bool)) (r : (List UInt8)), strings_trimRightASCII k x0 o1 = some r → Ev P 85 [(.str x0), (.ptr b1 0)] H (.str r) H
def S_strings_trimRightASCII_L1 (k : Nat) : Prop := ∀ (b1 : Nat) (o1 : (Arr Bool 256)) (t0 : (List UInt8)) (r : (List UInt8)) (ρ : Nat → Slot) (H : List (Option (List D))) (hb1 : objH H b1 = some (o1.l.map D.bool)), strings_trimRightASCII_L1 k o1 t0 = some r → wpc (Ev P) (.loop a85_L1) (a85_q2 (retQ a85.res (.str r) H)) ⟨upds ρ [(0, .d (.str t0)), (1, .d (.ptr b1 0))], H⟩
structure C_strings_trimRightASCII (k : Nat) : Prop where
  strings_trimRightASCII : S_strings_trimRightASCII k
  strings_trimRightASCII_L1 : S_strings_trimRightASCII_L1 k
theorem t_strings_trimRightASCII (k : Nat) (ih : C_strings_trimRightASCII k) : S_strings_trimRightASCII (k + 1) := by
  intro x0 b1 o1 H hb1 r h
  rw [strings_trimRightASCII] at h
  refine ev_intro a85 Go.Proofs.Tryd.func85 c85 (Nat.le_of_ble_eq_true rfl) ?_
  show wpc (Ev P) a85_B (retQ a85.res (.str r) H) _
  refine c_seq ?_
  refine c_reg ?_
  refine o_mvk ?_
  refine o_nil ?_
  refine k_then ?_
  refine c_seq ?_
  refine c_block ?_
  exact wpc_head (ih.strings_trimRightASCII_L1 _ _ _ _ _ _ hb1 h) ⟨rfl, rfl, trivial⟩
theorem t_strings_trimRightASCII_L1 (k : Nat) (ih : C_strings_trimRightASCII k) : S_strings_trimRightASCII_L1 (k + 1) := by
  intro b1 o1 t0 r ρ H hb1 h
  rw [strings_trimRightASCII_L1] at h
  refine wpc_loop_i ?_
  refine c_seq ?_
  refine c_seq ?_
  refine c_reg ?_
  refine o_mvt rfl (copy_of_str _) ?_
  refine o_len (vt rfl (copy_of_str _)) rfl (fun _ => ?_)
  refine o_bin (vt rfl (copy_of_int _ _)) (vk (copy_of_int _ _)) bin_gtr ?_
  refine o_nil ?_
  refine k_then ?_
  by_cases c1 : (decide ((t0.length : Int) > 0)) = true
  · have h := it_t h c1
    refine c_cond_t (vt rfl (copy_of_bool _)) c1 ?_
    refine c_skip ?_
    refine k_then ?_
    refine c_block ?_
    refine c_seq ?_
    refine c_seq ?_
    refine c_reg ?_
    refine o_mvt rfl (copy_of_ptr _ _) ?_
    refine o_mvt rfl (copy_of_str _) ?_
    refine o_mvt rfl (copy_of_str _) ?_
    refine o_len (vt rfl (copy_of_str _)) rfl (fun _ => ?_)
    refine o_bin (vt rfl (copy_of_int _ _)) (vk (copy_of_int _ _)) bin_sub ?_
    obtain ⟨y13, hy13, h⟩ := bind_some h
    refine o_ixs (vt rfl (copy_of_str _)) (vt rfl (copy_of_int _ _)) hy13 ?_
    obtain ⟨y14, hy14, h⟩ := bind_some h
    refine o_call rfl (g_cons (gt_ rfl (copy_of_ptr _ _)) (g_cons (gt_ rfl (copy_of_int _ _)) g_nil)) (s_strings_asciiSet_contains k _ _ _ _ hb1 _ hy14) ?_
    refine o_un (vt rfl (copy_of_bool _)) un_not ?_
    refine o_nil ?_
    refine k_then ?_
    by_cases c2 : (!y14) = true
    · have h := it_t h c2
      refine c_cond_t (vt rfl (copy_of_bool _)) c2 ?_
      refine c_exit ?_
      refine k_then_exit ?_
      refine k_block_exit' (by decide) ?_
      refine k_then_exit ?_
      refine k_block_exit _ ?_
      refine k_then ?_
      refine c_seq ?_
      refine c_reg ?_
      refine o_mvt rfl (copy_of_str _) ?_
      refine o_mvt rfl (copy_of_str _) ?_
      refine o_nil ?_
      refine k_then ?_
      refine c_ret ?_
      obtain rfl := Option.some.inj h
      exact rq_one rfl (res_t rfl (copy_of_str _)) (.inl rfl) rfl
    · have c2 := bf c2
      have h := it_f h c2
      refine c_cond_f (vt rfl (copy_of_bool _)) c2 ?_
      refine c_skip ?_
      refine k_then ?_
      refine c_reg ?_
      refine o_mvt rfl (copy_of_str _) ?_
      refine o_mvt rfl (copy_of_str _) ?_
      refine o_len (vt rfl (copy_of_str _)) rfl (fun _ => ?_)
      refine o_bin (vt rfl (copy_of_int _ _)) (vk (copy_of_int _ _)) bin_sub ?_
      obtain ⟨c3, h⟩ := need_some h
      refine o_sls_h (vt rfl (copy_of_str _)) (vt rfl (copy_of_int _ _)) c3 ?_
      refine o_mvt rfl (copy_of_str _) ?_
      refine o_nil ?_
      refine k_block _ ?_
      refine k_then ?_
      exact wpc_head (ih.strings_trimRightASCII_L1 _ _ _ _ _ _ hb1 h) ⟨rfl, rfl, trivial⟩
  · have c1 := bf c1
    have h := it_f h c1
    refine c_cond_f (vt rfl (copy_of_bool _)) c1 ?_
    refine c_exit ?_
    refine k_then_exit ?_
    refine k_then_exit ?_
    refine k_block_exit _ ?_
    refine k_then ?_
    refine c_seq ?_
    refine c_reg ?_
    refine o_mvt rfl (copy_of_str _) ?_
    refine o_mvt rfl (copy_of_str _) ?_
    refine o_nil ?_
    refine k_then ?_
    refine c_ret ?_
    obtain rfl := Option.some.inj h
    exact rq_one rfl (res_t rfl (copy_of_str _)) (.inl rfl) rfl
theorem z_strings_trimRightASCII : S_strings_trimRightASCII 0 := by
  intro x0 b1 o1 H hb1 r h
  rw [strings_trimRightASCII] at h; cases h
theorem z_strings_trimRightASCII_L1 : S_strings_trimRightASCII_L1 0 := by
  intro b1 o1 t0 r ρ H hb1 h
  rw [strings_trimRightASCII_L1] at h; cases h
theorem C_strings_trimRightASCII.all : ∀ k, C_strings_trimRightASCII k
  | 0 => ⟨z_strings_trimRightASCII, z_strings_trimRightASCII_L1⟩
  | k + 1 => ⟨t_strings_trimRightASCII k (C_strings_trimRightASCII.all k), t_strings_trimRightASCII_L1 k (C_strings_trimRightASCII.all k)⟩
theorem s_strings_trimRightASCII (k : Nat) : S_strings_trimRightASCII k := (C_strings_trimRightASCII.all k).strings_trimRightASCII
def a102_r0 : List AI := [
  { dst := some 2, op := .mv (.k (.int .i32 0)) },
  { dst := some 3, op := .mv (.k (.int .i64 0)) }]
def a102_r1 : List AI := [
  { dst := some 4, op := .mv (.t 0) },
  { dst := some 5, op := .bin .neq (.t 4) (.k (.str [])) },
  { dst := some 6, op := .mv (.t 5) },
  { dst := some 7, g := some (6, true), op := .mv (.t 0) },
  { dst := some 8, g := some (6, true), op := .ixs (.t 7) (.k (.int .i64 0)) },
  { dst := some 9, g := some (6, true), op := .bin .lss (.t 8) (.k (.int .u8 128)) },
  { dst := some 10, op := .pick (.t 6) (.t 9) (.k (.bool false)) }]
def a102_r2 : List AI := [
  { dst := some 11, op := .mv (.t 0) },
  { dst := some 12, op := .ixs (.t 11) (.k (.int .i64 0)) },
  { dst := some 13, op := .conv (.int .i32) (.t 12) },
  { dst := some 2, op := .mv (.t 13) },
  { dst := some 3, op := .mv (.k (.int .i64 1)) }]
def a102_r3 : List AI := [
  { dst := some 15, op := .mv (.t 0) },
  { dst := some 16, op := .call 118 [(.t 15)] },
  { dst := some 14, op := .mv (.t 16) },
  { dst := some 17, op := .ext (.t 14) 0 },
  { dst := some 18, op := .ext (.t 14) 1 },
  { dst := some 2, op := .mv (.t 17) },
  { dst := some 3, op := .mv (.t 18) }]
def a102_k1 : AC := (.cond (.t 10) (.seq (.reg a102_r2) .ret) (.reg a102_r3))
def a102_k2 : AC := (.seq (.seq (.reg a102_r1) a102_k1) .ret)
def a102_B : AC := (.seq (.reg a102_r0) a102_k2)
/-- unicode/utf8.DecodeRuneInString -/
def a102 : AF := { N := 19, V := [], body := a102_B, res := [.t 2, .t 3] }
theorem c102 : chkF P a102 Go.Proofs.Tryd.f102 = true := by kernel_rfl
/-- unicode/utf8.DecodeRuneInString -/
def unicode_utf8_DecodeRuneInString (k : Nat) (x0 : (List UInt8)) : Option (Int × Int) := match k with
  | 0 => none
  | k + 1 =>
    if (!(x0 == ([] : List UInt8))) = true then ((at_ x0 0).bind fun y8 =>
    if (decide ((y8.toNat : Int) < 128)) = true then ((at_ x0 0).bind fun y12 =>
    some ((IntKind.i32.wrap (y12.toNat : Int)), 1))
    else none)
    else none
def S_unicode_utf8_DecodeRuneInString (k : Nat) : Prop := ∀ (x0 : (List UInt8)) (r : (Int × Int)), unicode_utf8_DecodeRuneInString k x0 = some r → ∀ H, Ev P 102 [(.str x0)] H (.tup [(.int .i32 r.1), (.int .i64 r.2)]) H
structure C_unicode_utf8_DecodeRuneInString (k : Nat) : Prop where
  unicode_utf8_DecodeRuneInString : S_unicode_utf8_DecodeRuneInString k
theorem t_unicode_utf8_DecodeRuneInString (k : Nat) (ih : C_unicode_utf8_DecodeRuneInString k) : S_unicode_utf8_DecodeRuneInString (k + 1) := by
  intro x0 r h H0
  rw [unicode_utf8_DecodeRuneInString] at h
  refine evc_intro a102 Go.Proofs.Tryd.func102 c102 (Nat.le_of_ble_eq_true rfl) (cl_cons rfl cl_nil) (by simp only [D.closed, D.closedL, Bool.and_self, closedL_mi, closedL_mb]) ?_ H0
  generalize ([] : List (Option (List D))) = H
  show wpc (Ev P) a102_B (retN a102.res (.tup [(.int .i32 r.1), (.int .i64 r.2)])) _
  refine c_seq ?_
  refine c_reg ?_
  refine o_mvk ?_
  refine o_mvk ?_
  refine o_nil ?_
  refine k_then ?_
  refine c_seq ?_
  refine c_seq ?_
  refine c_reg ?_
  refine o_mvt rfl (copy_of_str _) ?_
  refine o_bin (vt rfl (copy_of_str _)) (vk (copy_of_str _)) bin_sneq ?_
  refine o_mvt rfl (copy_of_bool _) ?_
  by_cases c1 : (!(x0 == ([] : List UInt8))) = true
  · have h := it_t h c1
    refine o_g_t rfl c1 ?_
    refine o_mvt rfl (copy_of_str _) ?_
    refine o_g_t rfl c1 ?_
    obtain ⟨y8, hy8, h⟩ := bind_some h
    refine o_ixs (vt rfl (copy_of_str _)) (vk (copy_of_int _ _)) hy8 ?_
    refine o_g_t rfl c1 ?_
    refine o_bin (vt rfl (copy_of_int _ _)) (vk (copy_of_int _ _)) bin_lss ?_
    refine o_pick_t (vt rfl (copy_of_bool _)) c1 (vt rfl (copy_of_bool _)) ?_
    refine o_nil ?_
    refine k_then ?_
    by_cases c2 : (decide ((y8.toNat : Int) < 128)) = true
    · have h := it_t h c2
      refine c_cond_t (vt rfl (copy_of_bool _)) c2 ?_
      refine c_seq ?_
      refine c_reg ?_
      refine o_mvt rfl (copy_of_str _) ?_
      obtain ⟨y12, hy12, h⟩ := bind_some h
      refine o_ixs (vt rfl (copy_of_str _)) (vk (copy_of_int _ _)) hy12 ?_
      refine o_cvi (vt rfl (copy_of_int _ _)) ?_
      refine o_mvt rfl (copy_of_int _ _) ?_
      refine o_mvk ?_
      refine o_nil ?_
      refine k_then ?_
      refine c_ret ?_
      refine k_then_ret ?_
      obtain rfl := Option.some.inj h
      exact r_many rfl (rl_cons (res_t rfl (copy_of_int _ _)) (rl_cons (res_t rfl (copy_of_int _ _)) rl_nil)) rfl
    · have c2 := bf c2
      have h := it_f h c2
      refine c_cond_f (vt rfl (copy_of_bool _)) c2 ?_
      refine c_reg ?_
      refine o_mvt rfl (copy_of_str _) ?_
      cases h
  · have c1 := bf c1
    have h := it_f h c1
    refine o_g_f rfl (ne_f c1) ?_
    refine o_g_f rfl (ne_f c1) ?_
    refine o_g_f rfl (ne_f c1) ?_
    refine o_pick_f (vt rfl (copy_of_bool _)) c1 (vk (copy_of_bool _)) ?_
    refine o_nil ?_
    refine k_then ?_
    refine c_cond_f (vt rfl (copy_of_bool _)) rfl ?_
    refine c_reg ?_
    refine o_mvt rfl (copy_of_str _) ?_
    cases h
theorem z_unicode_utf8_DecodeRuneInString : S_unicode_utf8_DecodeRuneInString 0 := by
  intro x0 r h H
  rw [unicode_utf8_DecodeRuneInString] at h; cases h
theorem C_unicode_utf8_DecodeRuneInString.all : ∀ k, C_unicode_utf8_DecodeRuneInString k
  | 0 => ⟨z_unicode_utf8_DecodeRuneInString⟩
  | k + 1 => ⟨t_unicode_utf8_DecodeRuneInString k (C_unicode_utf8_DecodeRuneInString.all k)⟩
theorem s_unicode_utf8_DecodeRuneInString (k : Nat) : S_unicode_utf8_DecodeRuneInString k := (C_unicode_utf8_DecodeRuneInString.all k).unicode_utf8_DecodeRuneInString
def a133_r0 : List AI := [
  { dst := some 4, op := .mv (.k (.int .i64 0)) }]
def a133_r1 : List AI := [
  { dst := some 5, op := .mv (.t 0) },
  { dst := some 6, op := .mv (.t 1) },
  { dst := some 7, op := .call 134 [(.t 5), (.t 6)] },
  { dst := some 4, op := .mv (.t 7) }]
def a133_k1 : AC := (.seq (.reg a133_r1) .ret)
def a133_B : AC := (.seq (.reg a133_r0) a133_k1)
/-- internal/stringslite.IndexByte -/
def a133 : AF := { N := 8, V := [], body := a133_B, res := [.t 4] }
theorem c133 : chkF P a133 Go.Proofs.Tryd.f133 = true := by kernel_rfl
/-- internal/stringslite.IndexByte -/
def stringslite_IndexByte (k : Nat) (x0 : (List UInt8)) (x1 : Int) : Option Int := match k with
  | 0 => none
  | k + 1 =>
    none
def S_stringslite_IndexByte (k : Nat) : Prop := ∀ (x0 : (List UInt8)) (x1 : Int) (r : Int), stringslite_IndexByte k x0 x1 = some r → ∀ H, Ev P 133 [(.str x0), (.int .u8 x1)] H (.int .i64 r) H
structure C_stringslite_IndexByte (k : Nat) : Prop where
  stringslite_IndexByte : S_stringslite_IndexByte k
theorem t_stringslite_IndexByte (k : Nat) (ih : C_stringslite_IndexByte k) : S_stringslite_IndexByte (k + 1) := by
  intro x0 x1 r h H0
  rw [stringslite_IndexByte] at h
  refine evc_intro a133 Go.Proofs.Tryd.func133 c133 (Nat.le_of_ble_eq_true rfl) (cl_cons rfl (cl_cons rfl cl_nil)) rfl ?_ H0
  generalize ([] : List (Option (List D))) = H
  show wpc (Ev P) a133_B (retN a133.res (.int .i64 r)) _
  refine c_seq ?_
  refine c_reg ?_
  refine o_mvk ?_
  refine o_nil ?_
  refine k_then ?_
  refine c_seq ?_
  refine c_reg ?_
  refine o_mvt rfl (copy_of_str _) ?_
  refine o_mvt rfl (copy_of_int _ _) ?_
  cases h
theorem z_stringslite_IndexByte : S_stringslite_IndexByte 0 := by
  intro x0 x1 r h H
  rw [stringslite_IndexByte] at h; cases h
theorem C_stringslite_IndexByte.all : ∀ k, C_stringslite_IndexByte k
  | 0 => ⟨z_stringslite_IndexByte⟩
  | k + 1 => ⟨t_stringslite_IndexByte k (C_stringslite_IndexByte.all k)⟩
theorem s_stringslite_IndexByte (k : Nat) : S_stringslite_IndexByte k := (C_stringslite_IndexByte.all k).stringslite_IndexByte
def a127_r0 : List AI := [
  { dst := some 4, op := .mv (.k (.int .i64 0)) }]
def a127_r1 : List AI := [
  { dst := some 5, op := .mv (.t 0) },
  { dst := some 6, op := .mv (.t 1) },
  { dst := some 7, op := .call 133 [(.t 5), (.t 6)] },
  { dst := some 4, op := .mv (.t 7) }]
def a127_k1 : AC := (.seq (.reg a127_r1) .ret)
def a127_B : AC := (.seq (.reg a127_r0) a127_k1)
/-- strings.IndexByte -/
def a127 : AF := { N := 8, V := [], body := a127_B, res := [.t 4] }
theorem c127 : chkF P a127 Go.Proofs.Tryd.f127 = true := by kernel_rfl
/-- strings.IndexByte -/
def strings_IndexByte (k : Nat) (x0 : (List UInt8)) (x1 : Int) : Option Int := match k with
  | 0 => none
  | k + 1 =>
    (stringslite_IndexByte k x0 x1).bind fun y7 =>
    some y7
def S_strings_IndexByte (k : Nat) : Prop := ∀ (x0 : (List UInt8)) (x1 : Int) (r : Int), strings_IndexByte k x0 x1 = some r → ∀ H, Ev P 127 [(.str x0), (.int .u8 x1)] H (.int .i64 r) H
structure C_strings_IndexByte (k : Nat) : Prop where
  strings_IndexByte : S_strings_IndexByte k
theorem t_strings_IndexByte (k : Nat) (ih : C_strings_IndexByte k) : S_strings_IndexByte (k + 1) := by
  intro x0 x1 r h H0
  rw [strings_IndexByte] at h
  refine evc_intro a127 Go.Proofs.Tryd.func127 c127 (Nat.le_of_ble_eq_true rfl) (cl_cons rfl (cl_cons rfl cl_nil)) rfl ?_ H0
  generalize ([] : List (Option (List D))) = H
  show wpc (Ev P) a127_B (retN a127.res (.int .i64 r)) _
  refine c_seq ?_
  refine c_reg ?_
  refine o_mvk ?_
  refine o_nil ?_
  refine k_then ?_
  refine c_seq ?_
  refine c_reg ?_
  refine o_mvt rfl (copy_of_str _) ?_
  refine o_mvt rfl (copy_of_int _ _) ?_
  obtain ⟨y7, hy7, h⟩ := bind_some h
  refine o_call rfl (g_cons (gt_ rfl (copy_of_str _)) (g_cons (gt_ rfl (copy_of_int _ _)) g_nil)) (s_stringslite_IndexByte k _ _ _ hy7 _) ?_
  refine o_mvt rfl (copy_of_int _ _) ?_
  refine o_nil ?_
  refine k_then ?_
  refine c_ret ?_
  obtain rfl := Option.some.inj h
  exact r_one rfl (res_t rfl (copy_of_int _ _)) (.inl rfl)
theorem z_strings_IndexByte : S_strings_IndexByte 0 := by
  intro x0 x1 r h H
  rw [strings_IndexByte] at h; cases h
theorem C_strings_IndexByte.all : ∀ k, C_strings_IndexByte k
  | 0 => ⟨z_strings_IndexByte⟩
  | k + 1 => ⟨t_strings_IndexByte k (C_strings_IndexByte.all k)⟩
theorem s_strings_IndexByte (k : Nat) : S_strings_IndexByte k := (C_strings_IndexByte.all k).strings_IndexByte
def a128_r0 : List AI := [
  { dst := some 2, op := .mv (.k (.bool false)) }]
def a128_r1 : List AI := [
  { dst := some 4, op := .mv (.t 0) },
  { dst := some 5, op := .bin .leq (.k (.int .i32 0)) (.t 4) },
  { dst := some 6, op := .mv (.t 5) },
  { dst := some 7, g := some (6, true), op := .mv (.t 0) },
  { dst := some 8, g := some (6, true), op := .bin .lss (.t 7) (.k (.int .i32 55296)) },
  { dst := some 9, op := .pick (.t 6) (.t 8) (.k (.bool false)) },
  { dst := some 3, op := .mv (.t 9) }]
def a128_r2 : List AI := [
  { dst := some 2, op := .mv (.k (.bool true)) }]
def a128_r3 : List AI := [
  { dst := some 11, op := .mv (.t 0) },
  { dst := some 12, op := .bin .lss (.k (.int .i32 57343)) (.t 11) },
  { dst := some 13, op := .mv (.t 12) },
  { dst := some 14, g := some (13, true), op := .mv (.t 0) },
  { dst := some 15, g := some (13, true), op := .bin .leq (.t 14) (.k (.int .i32 1114111)) },
  { dst := some 16, op := .pick (.t 13) (.t 15) (.k (.bool false)) },
  { dst := some 10, op := .mv (.t 16) }]
def a128_r4 : List AI := [
  { dst := some 2, op := .mv (.k (.bool true)) }]
def a128_k1 : AC := (.cond (.t 10) (.seq (.reg a128_r4) .ret) .skip)
def a128_k2 : AC := (.cond (.t 3) (.seq (.reg a128_r2) .ret) (.seq (.reg a128_r3) a128_k1))
def a128_r5 : List AI := [
  { dst := some 2, op := .mv (.k (.bool false)) }]
def a128_k3 : AC := (.seq (.reg a128_r5) .ret)
def a128_k4 : AC := (.seq (.block 0 (.seq (.reg a128_r1) a128_k2)) a128_k3)
def a128_B : AC := (.seq (.reg a128_r0) a128_k4)
/-- unicode/utf8.ValidRune -/
def a128 : AF := { N := 17, V := [], body := a128_B, res := [.t 2] }
theorem c128 : chkF P a128 Go.Proofs.Tryd.f128 = true := by kernel_rfl
/-- unicode/utf8.ValidRune -/
def unicode_utf8_ValidRune (k : Nat) (x0 : Int) : Option Bool := match k with
  | 0 => none
  | k + 1 =>
    if ((decide (0 ≤ x0)) && (decide (x0 < 55296))) = true then (some true)
    else if ((decide (57343 < x0)) && (decide (x0 ≤ 1114111))) = true then (some true)
    else some false
def a128_q1 (R : Ex → St → Prop) : Ex → St → Prop := Ex.then (wpc (Ev P) a128_k3 R) R
def a128_q2 (R : Ex → St → Prop) : Ex → St → Prop := Ex.inBlock 0 (a128_q1 R)
def a128_q3 (R : Ex → St → Prop) : Ex → St → Prop := Ex.then (wpc (Ev P) a128_k2 (a128_q2 R)) (a128_q2 R)
def a128_q4 (R : Ex → St → Prop) : Ex → St → Prop := Ex.then (wpc (Ev P) a128_k1 (a128_q2 R)) (a128_q2 R)
def S_unicode_utf8_ValidRune (k : Nat) : Prop := ∀ (x0 : Int) (r : Bool), unicode_utf8_ValidRune k x0 = some r → ∀ H, Ev P 128 [(.int .i32 x0)] H (.bool r) H
structure C_unicode_utf8_ValidRune (k : Nat) : Prop where
  unicode_utf8_ValidRune : S_unicode_utf8_ValidRune k
theorem t_unicode_utf8_ValidRune (k : Nat) (ih : C_unicode_utf8_ValidRune k) : S_unicode_utf8_ValidRune (k + 1) := by
  intro x0 r h H0
  rw [unicode_utf8_ValidRune] at h
  refine evc_intro a128 Go.Proofs.Tryd.func128 c128 (Nat.le_of_ble_eq_true rfl) (cl_cons rfl cl_nil) rfl ?_ H0
  generalize ([] : List (Option (List D))) = H
  show wpc (Ev P) a128_B (retN a128.res (.bool r)) _
  refine c_seq ?_
  refine c_reg ?_
  refine o_mvk ?_
  refine o_nil ?_
  refine k_then ?_
  refine c_seq ?_
  refine c_block ?_
  refine c_seq ?_
  refine c_reg ?_
  refine o_mvt rfl (copy_of_int _ _) ?_
  refine o_bin (vk (copy_of_int _ _)) (vt rfl (copy_of_int _ _)) bin_leq ?_
  refine o_mvt rfl (copy_of_bool _) ?_
  have key1 : ∀ ρ : Nat → Slot, wpo (Ev P) (a128_r1.drop 6) ((a128_q3 (retN a128.res (.bool r))) .normal) ⟨upds ρ [(0, .d (.int .i32 x0)), (9, .d (.bool ((decide (0 ≤ x0)) && (decide (x0 < 55296)))))], H⟩ := by
    intro ρ
    refine o_mvt rfl (copy_of_bool _) ?_
    refine o_nil ?_
    refine k_then ?_
    by_cases c3 : ((decide (0 ≤ x0)) && (decide (x0 < 55296))) = true
    · have h := it_t h c3
      refine c_cond_t (vt rfl (copy_of_bool _)) c3 ?_
      refine c_seq ?_
      refine c_reg ?_
      refine o_mvk ?_
      refine o_nil ?_
      refine k_then ?_
      refine c_ret ?_
      refine k_block_ret ?_
      refine k_then_ret ?_
      obtain rfl := Option.some.inj h
      exact r_one rfl (res_t rfl (copy_of_bool _)) (.inl rfl)
    · have c3 := bf c3
      have h := it_f h c3
      refine c_cond_f (vt rfl (copy_of_bool _)) c3 ?_
      refine c_seq ?_
      refine c_reg ?_
      refine o_mvt rfl (copy_of_int _ _) ?_
      refine o_bin (vk (copy_of_int _ _)) (vt rfl (copy_of_int _ _)) bin_lss ?_
      refine o_mvt rfl (copy_of_bool _) ?_
      have key4 : ∀ ρ : Nat → Slot, wpo (Ev P) (a128_r3.drop 6) ((a128_q4 (retN a128.res (.bool r))) .normal) ⟨upds ρ [(16, .d (.bool ((decide (57343 < x0)) && (decide (x0 ≤ 1114111)))))], H⟩ := by
        intro ρ
        refine o_mvt rfl (copy_of_bool _) ?_
        refine o_nil ?_
        refine k_then ?_
        by_cases c6 : ((decide (57343 < x0)) && (decide (x0 ≤ 1114111))) = true
        · have h := it_t h c6
          refine c_cond_t (vt rfl (copy_of_bool _)) c6 ?_
          refine c_seq ?_
          refine c_reg ?_
          refine o_mvk ?_
          refine o_nil ?_
          refine k_then ?_
          refine c_ret ?_
          refine k_block_ret ?_
          refine k_then_ret ?_
          obtain rfl := Option.some.inj h
          exact r_one rfl (res_t rfl (copy_of_bool _)) (.inl rfl)
        · have c6 := bf c6
          have h := it_f h c6
          refine c_cond_f (vt rfl (copy_of_bool _)) c6 ?_
          refine c_skip ?_
          refine k_block _ ?_
          refine k_then ?_
          refine c_seq ?_
          refine c_reg ?_
          refine o_mvk ?_
          refine o_nil ?_
          refine k_then ?_
          refine c_ret ?_
          obtain rfl := Option.some.inj h
          exact r_one rfl (res_t rfl (copy_of_bool _)) (.inl rfl)
      by_cases c5 : (decide (57343 < x0)) = true
      · clear h
        refine o_g_t rfl c5 ?_
        refine o_mvt rfl (copy_of_int _ _) ?_
        refine o_g_t rfl c5 ?_
        refine o_bin (vt rfl (copy_of_int _ _)) (vk (copy_of_int _ _)) bin_leq ?_
        refine o_pick_t (vt rfl (copy_of_bool _)) c5 (vt rfl (copy_of_bool _)) ?_
        exact wpo_head (key4 _) ⟨(by simp only [c5]; rfl), trivial⟩
      · clear h
        have c5 := bf c5
        refine o_g_f rfl (ne_f c5) ?_
        refine o_g_f rfl (ne_f c5) ?_
        refine o_pick_f (vt rfl (copy_of_bool _)) c5 (vk (copy_of_bool _)) ?_
        exact wpo_head (key4 _) ⟨(by simp only [c5]; rfl), trivial⟩
  by_cases c2 : (decide (0 ≤ x0)) = true
  · clear h
    refine o_g_t rfl c2 ?_
    refine o_mvt rfl (copy_of_int _ _) ?_
    refine o_g_t rfl c2 ?_
    refine o_bin (vt rfl (copy_of_int _ _)) (vk (copy_of_int _ _)) bin_lss ?_
    refine o_pick_t (vt rfl (copy_of_bool _)) c2 (vt rfl (copy_of_bool _)) ?_
    exact wpo_head (key1 _) ⟨rfl, (by simp only [c2]; rfl), trivial⟩
  · clear h
    have c2 := bf c2
    refine o_g_f rfl (ne_f c2) ?_
    refine o_g_f rfl (ne_f c2) ?_
    refine o_pick_f (vt rfl (copy_of_bool _)) c2 (vk (copy_of_bool _)) ?_
    exact wpo_head (key1 _) ⟨rfl, (by simp only [c2]; rfl), trivial⟩
theorem z_unicode_utf8_ValidRune : S_unicode_utf8_ValidRune 0 := by
  intro x0 r h H
  rw [unicode_utf8_ValidRune] at h; cases h
theorem C_unicode_utf8_ValidRune.all : ∀ k, C_unicode_utf8_ValidRune k
  | 0 => ⟨z_unicode_utf8_ValidRune⟩
  | k + 1 => ⟨t_unicode_utf8_ValidRune k (C_unicode_utf8_ValidRune.all k)⟩
theorem s_unicode_utf8_ValidRune (k : Nat) : S_unicode_utf8_ValidRune k := (C_unicode_utf8_ValidRune.all k).unicode_utf8_ValidRune
def a129_r0 : List AI := [
  { dst := some 2, op := .mv (.k (.int .i64 0)) }]
def a129_r1 : List AI := [
  { dst := some 3, op := .mv (.t 0) },
  { dst := some 4, op := .bin .add (.t 3) (.k (.int .i64 16)) },
  { dst := some 5, op := .bin .quo (.t 4) (.k (.int .i64 8)) },
  { dst := some 2, op := .mv (.t 5) }]
def a129_k1 : AC := (.seq (.reg a129_r1) .ret)
def a129_B : AC := (.seq (.reg a129_r0) a129_k1)
/-- internal/bytealg.Cutover -/
def a129 : AF := { N := 6, V := [], body := a129_B, res := [.t 2] }
theorem c129 : chkF P a129 Go.Proofs.Tryd.f129 = true := by kernel_rfl
/-- internal/bytealg.Cutover -/
def bytealg_Cutover (k : Nat) (x0 : Int) : Option Int := match k with
  | 0 => none
  | k + 1 =>
    some (IntKind.i64.wrap ((IntKind.i64.wrap (x0 + 16)).tdiv 8))
def S_bytealg_Cutover (k : Nat) : Prop := ∀ (x0 : Int) (r : Int), bytealg_Cutover k x0 = some r → ∀ H, Ev P 129 [(.int .i64 x0)] H (.int .i64 r) H
structure C_bytealg_Cutover (k : Nat) : Prop where
  bytealg_Cutover : S_bytealg_Cutover k
theorem t_bytealg_Cutover (k : Nat) (ih : C_bytealg_Cutover k) : S_bytealg_Cutover (k + 1) := by
  intro x0 r h H0
  rw [bytealg_Cutover] at h
  refine evc_intro a129 Go.Proofs.Tryd.func129 c129 (Nat.le_of_ble_eq_true rfl) (cl_cons rfl cl_nil) rfl ?_ H0
  generalize ([] : List (Option (List D))) = H
  show wpc (Ev P) a129_B (retN a129.res (.int .i64 r)) _
  refine c_seq ?_
  refine c_reg ?_
  refine o_mvk ?_
  refine o_nil ?_
  refine k_then ?_
  refine c_seq ?_
  refine c_reg ?_
  refine o_mvt rfl (copy_of_int _ _) ?_
  refine o_bin (vt rfl (copy_of_int _ _)) (vk (copy_of_int _ _)) bin_add ?_
  refine o_bin (vt rfl (copy_of_int _ _)) (vk (copy_of_int _ _)) (bin_quo (by decide)) ?_
  refine o_mvt rfl (copy_of_int _ _) ?_
  refine o_nil ?_
  refine k_then ?_
  refine c_ret ?_
  obtain rfl := Option.some.inj h
  exact r_one rfl (res_t rfl (copy_of_int _ _)) (.inl rfl)
theorem z_bytealg_Cutover : S_bytealg_Cutover 0 := by
  intro x0 r h H
  rw [bytealg_Cutover] at h; cases h
theorem C_bytealg_Cutover.all : ∀ k, C_bytealg_Cutover k
  | 0 => ⟨z_bytealg_Cutover⟩
  | k + 1 => ⟨t_bytealg_Cutover k (C_bytealg_Cutover.all k)⟩
theorem s_bytealg_Cutover (k : Nat) : S_bytealg_Cutover k := (C_bytealg_Cutover.all k).bytealg_Cutover
def a103_r0 : List AI := [
  { dst := some 4, op := .mv (.k (.bool false)) }]
def a103_r1 : List AI := [
  { dst := some 5, op := .mv (.t 0) },
  { dst := some 6, op := .mv (.t 1) },
  { dst := some 7, op := .call 119 [(.t 5), (.t 6)] },
  { dst := some 8, op := .bin .geq (.t 7) (.k (.int .i64 0)) },
  { dst := some 4, op := .mv (.t 8) }]
def a103_k1 : AC := (.seq (.reg a103_r1) .ret)
def a103_B : AC := (.seq (.reg a103_r0) a103_k1)
/-- strings.ContainsRune -/
def a103 : AF := { N := 9, V := [], body := a103_B, res := [.t 4] }
theorem c103 : chkF P a103 Go.Proofs.Tryd.f103 = true := by kernel_rfl
/-- strings.ContainsRune -/
def strings_ContainsRune (k : Nat) (x0 : (List UInt8)) (x1 : Int) : Option Bool := match k with
  | 0 => none
  | k + 1 =>
    none
def S_strings_ContainsRune (k : Nat) : Prop := ∀ (x0 : (List UInt8)) (x1 : Int) (r : Bool), strings_ContainsRune k x0 x1 = some r → ∀ H, Ev P 103 [(.str x0), (.int .i32 x1)] H (.bool r) H
structure C_strings_ContainsRune (k : Nat) : Prop where
  strings_ContainsRune : S_strings_ContainsRune k
theorem t_strings_ContainsRune (k : Nat) (ih : C_strings_ContainsRune k) : S_strings_ContainsRune (k + 1) := by
  intro x0 x1 r h H0
  rw [strings_ContainsRune] at h
  refine evc_intro a103 Go.Proofs.Tryd.func103 c103 (Nat.le_of_ble_eq_true rfl) (cl_cons rfl (cl_cons rfl cl_nil)) rfl ?_ H0
  generalize ([] : List (Option (List D))) = H
  show wpc (Ev P) a103_B (retN a103.res (.bool r)) _
  refine c_seq ?_
  refine c_reg ?_
  refine o_mvk ?_
  refine o_nil ?_
  refine k_then ?_
  refine c_seq ?_
  refine c_reg ?_
  refine o_mvt rfl (copy_of_str _) ?_
  refine o_mvt rfl (copy_of_int _ _) ?_
  cases h
theorem z_strings_ContainsRune : S_strings_ContainsRune 0 := by
  intro x0 x1 r h H
  rw [strings_ContainsRune] at h; cases h
theorem C_strings_ContainsRune.all : ∀ k, C_strings_ContainsRune k
  | 0 => ⟨z_strings_ContainsRune⟩
  | k + 1 => ⟨t_strings_ContainsRune k (C_strings_ContainsRune.all k)⟩
theorem s_strings_ContainsRune (k : Nat) : S_strings_ContainsRune k := (C_strings_ContainsRune.all k).strings_ContainsRune
def a86_r0 : List AI := [
  { dst := some 4, op := .mv (.k (.str [])) }]
def a86_r1 : List AI := [
  { dst := some 7, op := .mv (.t 0) },
  { dst := some 8, op := .len true (.t 7) },
  { dst := some 9, op := .bin .gtr (.t 8) (.k (.int .i64 0)) }]
def a86_k1 : AC := (.cond (.t 9) .skip (.exit 0))
def a86_r2 : List AI := [
  { dst := some 11, op := .mv (.t 0) },
  { dst := some 12, op := .call 102 [(.t 11)] },
  { dst := some 10, op := .mv (.t 12) },
  { dst := some 13, op := .ext (.t 10) 0 },
  { dst := some 14, op := .ext (.t 10) 1 },
  { dst := some 5, op := .mv (.t 13) },
  { dst := some 6, op := .mv (.t 14) }]
def a86_r3 : List AI := [
  { dst := some 15, op := .mv (.t 1) },
  { dst := some 16, op := .mv (.t 5) },
  { dst := some 17, op := .call 103 [(.t 15), (.t 16)] },
  { dst := some 18, op := .un .not (.t 17) }]
def a86_k2 : AC := (.cond (.t 18) (.exit 0) .skip)
def a86_r4 : List AI := [
  { dst := some 19, op := .mv (.t 0) },
  { dst := some 20, op := .mv (.t 6) },
  { dst := some 21, op := .sls (.t 19) (some (.t 20)) none },
  { dst := some 0, op := .mv (.t 21) }]
def a86_k3 : AC := (.seq (.seq (.reg a86_r3) a86_k2) (.reg a86_r4))
def a86_k4 : AC := (.block 1 (.seq (.reg a86_r2) a86_k3))
def a86_L1 : AC := (.seq (.seq (.reg a86_r1) a86_k1) a86_k4)
def a86_r5 : List AI := [
  { dst := some 22, op := .mv (.t 0) },
  { dst := some 4, op := .mv (.t 22) }]
def a86_k5 : AC := (.seq (.reg a86_r5) .ret)
def a86_k6 : AC := (.seq (.block 0 (.loop a86_L1)) a86_k5)
def a86_B : AC := (.seq (.reg a86_r0) a86_k6)
/-- strings.trimLeftUnicode -/
def a86 : AF := { N := 23, V := [], body := a86_B, res := [.t 4] }
theorem c86 : chkF P a86 Go.Proofs.Tryd.f86 = true := by kernel_rfl
mutual
/-- strings.trimLeftUnicode -/
def strings_trimLeftUnicode (k : Nat) (x0 : (List UInt8)) (x1 : (List UInt8)) : Option (List UInt8) := match k with
  | 0 => none
  | k + 1 =>
    strings_trimLeftUnicode_L1 k x0 x1
def strings_trimLeftUnicode_L1 (k : Nat) (t0 : (List UInt8)) (t1 : (List UInt8)) : Option (List UInt8) := match k with
  | 0 => none
  | k + 1 =>
    if (decide ((t0.length : Int) > 0)) = true then ((unicode_utf8_DecodeRuneInString k t0).bind fun y12 =>
    (strings_ContainsRune k t1 y12.1).bind fun y17 =>
    if (!y17) = true then (some t0)
    else need ((0 : Int) ≤ y12.2 ∧ y12.2 ≤ (t0.length : Int)) <|
    strings_trimLeftUnicode_L1 k (t0.drop (y12.2 : Int).toNat) t1)
    else some t0
end
def a86_q1 (R : Ex → St → Prop) : Ex → St → Prop := Ex.then (wpc (Ev P) a86_k5 R) R
def a86_q2 (R : Ex → St → Prop) : Ex → St → Prop := Ex.inBlock 0 (a86_q1 R)
def S_strings_trimLeftUnicode (k : Nat) : Prop := ∀ (x0 : (List UInt8)) (x1 : (List UInt8)) (r : (List UInt8)), strings_trimLeftUnicode k x0 x1 = some r → ∀ H, Ev P 86 [(.str x0), (.str x1)] H (.str r) H
def S_strings_trimLeftUnicode_L1 (k : Nat) : Prop := ∀ (t0 : (List UInt8)) (t1 : (List UInt8)) (r : (List UInt8)) (ρ : Nat → Slot) (H : List (Option (List D))) , strings_trimLeftUnicode_L1 k t0 t1 = some r → wpc (Ev P) (.loop a86_L1) (a86_q2 (retN a86.res (.str r))) ⟨upds ρ [(0, .d (.str t0)), (1, .d (.str t1))], H⟩
structure C_strings_trimLeftUnicode (k : Nat) : Prop where
  strings_trimLeftUnicode : S_strings_trimLeftUnicode k
  strings_trimLeftUnicode_L1 : S_strings_trimLeftUnicode_L1 k
theorem t_strings_trimLeftUnicode (k : Nat) (ih : C_strings_trimLeftUnicode k) : S_strings_trimLeftUnicode (k + 1) := by
  intro x0 x1 r h H0
  rw [strings_trimLeftUnicode] at h
  refine evc_intro a86 Go.Proofs.Tryd.func86 c86 (Nat.le_of_ble_eq_true rfl) (cl_cons rfl (cl_cons rfl cl_nil)) rfl ?_ H0
  generalize ([] : List (Option (List D))) = H
  show wpc (Ev P) a86_B (retN a86.res (.str r)) _
  refine c_seq ?_
  refine c_reg ?_
  refine o_mvk ?_
  refine o_nil ?_
  refine k_then ?_
  refine c_seq ?_
  refine c_block ?_
  exact wpc_head (ih.strings_trimLeftUnicode_L1 _ _ _ _ _ h) ⟨rfl, rfl, trivial⟩
theorem t_strings_trimLeftUnicode_L1 (k : Nat) (ih : C_strings_trimLeftUnicode k) : S_strings_trimLeftUnicode_L1 (k + 1) := by
  intro t0 t1 r ρ H h
  rw [strings_trimLeftUnicode_L1] at h
  refine wpc_loop_i ?_
  refine c_seq ?_
  refine c_seq ?_
  refine c_reg ?_
  refine o_mvt rfl (copy_of_str _) ?_
  refine o_len (vt rfl (copy_of_str _)) rfl (fun _ => ?_)
  refine o_bin (vt rfl (copy_of_int _ _)) (vk (copy_of_int _ _)) bin_gtr ?_
  refine o_nil ?_
  refine k_then ?_
  by_cases c1 : (decide ((t0.length : Int) > 0)) = true
  · have h := it_t h c1
    refine c_cond_t (vt rfl (copy_of_bool _)) c1 ?_
    refine c_skip ?_
    refine k_then ?_
    refine c_block ?_
    refine c_seq ?_
    refine c_reg ?_
    refine o_mvt rfl (copy_of_str _) ?_
    obtain ⟨y12, hy12, h⟩ := bind_some h
    refine o_call rfl (g_cons (gt_ rfl (copy_of_str _)) g_nil) (s_unicode_utf8_DecodeRuneInString k _ _ hy12 _) ?_
    refine o_mvt rfl (copy_of_tup _) ?_
    refine o_ext (vt rfl (copy_of_tup _)) rfl ?_
    refine o_ext (vt rfl (copy_of_tup _)) rfl ?_
    refine o_mvt rfl (copy_of_int _ _) ?_
    refine o_mvt rfl (copy_of_int _ _) ?_
    refine o_nil ?_
    refine k_then ?_
    refine c_seq ?_
    refine c_seq ?_
    refine c_reg ?_
    refine o_mvt rfl (copy_of_str _) ?_
    refine o_mvt rfl (copy_of_int _ _) ?_
    obtain ⟨y17, hy17, h⟩ := bind_some h
    refine o_call rfl (g_cons (gt_ rfl (copy_of_str _)) (g_cons (gt_ rfl (copy_of_int _ _)) g_nil)) (s_strings_ContainsRune k _ _ _ hy17 _) ?_
    refine o_un (vt rfl (copy_of_bool _)) un_not ?_
    refine o_nil ?_
    refine k_then ?_
    by_cases c2 : (!y17) = true
    · have h := it_t h c2
      refine c_cond_t (vt rfl (copy_of_bool _)) c2 ?_
      refine c_exit ?_
      refine k_then_exit ?_
      refine k_block_exit' (by decide) ?_
      refine k_then_exit ?_
      refine k_block_exit _ ?_
      refine k_then ?_
      refine c_seq ?_
      refine c_reg ?_
      refine o_mvt rfl (copy_of_str _) ?_
      refine o_mvt rfl (copy_of_str _) ?_
      refine o_nil ?_
      refine k_then ?_
      refine c_ret ?_
      obtain rfl := Option.some.inj h
      exact r_one rfl (res_t rfl (copy_of_str _)) (.inl rfl)
    · have c2 := bf c2
      have h := it_f h c2
      refine c_cond_f (vt rfl (copy_of_bool _)) c2 ?_
      refine c_skip ?_
      refine k_then ?_
      refine c_reg ?_
      refine o_mvt rfl (copy_of_str _) ?_
      refine o_mvt rfl (copy_of_int _ _) ?_
      obtain ⟨c3, h⟩ := need_some h
      refine o_sls_l (vt rfl (copy_of_str _)) (vt rfl (copy_of_int _ _)) c3 ?_
      refine o_mvt rfl (copy_of_str _) ?_
      refine o_nil ?_
      refine k_block _ ?_
      refine k_then ?_
      exact wpc_head (ih.strings_trimLeftUnicode_L1 _ _ _ _ _ h) ⟨rfl, rfl, trivial⟩
  · have c1 := bf c1
    have h := it_f h c1
    refine c_cond_f (vt rfl (copy_of_bool _)) c1 ?_
    refine c_exit ?_
    refine k_then_exit ?_
    refine k_then_exit ?_
    refine k_block_exit _ ?_
    refine k_then ?_
    refine c_seq ?_
    refine c_reg ?_
    refine o_mvt rfl (copy_of_str _) ?_
    refine o_mvt rfl (copy_of_str _) ?_
    refine o_nil ?_
    refine k_then ?_
    refine c_ret ?_
    obtain rfl := Option.some.inj h
    exact r_one rfl (res_t rfl (copy_of_str _)) (.inl rfl)
theorem z_strings_trimLeftUnicode : S_strings_trimLeftUnicode 0 := by
  intro x0 x1 r h H
  rw [strings_trimLeftUnicode] at h; cases h
theorem z_strings_trimLeftUnicode_L1 : S_strings_trimLeftUnicode_L1 0 := by
  intro t0 t1 r ρ H h
  rw [strings_trimLeftUnicode_L1] at h; cases h
theorem C_strings_trimLeftUnicode.all : ∀ k, C_strings_trimLeftUnicode k
  | 0 => ⟨z_strings_trimLeftUnicode, z_strings_trimLeftUnicode_L1⟩
  | k + 1 => ⟨t_strings_trimLeftUnicode k (C_strings_trimLeftUnicode.all k), t_strings_trimLeftUnicode_L1 k (C_strings_trimLeftUnicode.all k)⟩
theorem s_strings_trimLeftUnicode (k : Nat) : S_strings_trimLeftUnicode k := (C_strings_trimLeftUnicode.all k).strings_trimLeftUnicode
def a120_r0 : List AI := [
  { dst := some 2, op := .mv (.k (.bool false)) }]
def a120_r1 : List AI := [
  { dst := some 3, op := .mv (.t 0) },
  { dst := some 4, op := .bin .and (.t 3) (.k (.int .u8 192)) },
  { dst := some 5, op := .bin .neq (.t 4) (.k (.int .u8 128)) },
  { dst := some 2, op := .mv (.t 5) }]
def a120_k1 : AC := (.seq (.reg a120_r1) .ret)
def a120_B : AC := (.seq (.reg a120_r0) a120_k1)
/-- unicode/utf8.RuneStart -/
def a120 : AF := { N := 6, V := [], body := a120_B, res := [.t 2] }
theorem c120 : chkF P a120 Go.Proofs.Tryd.f120 = true := by kernel_rfl
/-- unicode/utf8.RuneStart -/
def unicode_utf8_RuneStart (k : Nat) (x0 : Int) : Option Bool := match k with
  | 0 => none
  | k + 1 =>
    some ((andI .u8 x0 192) != 128)
def S_unicode_utf8_RuneStart (k : Nat) : Prop := ∀ (x0 : Int) (r : Bool), unicode_utf8_RuneStart k x0 = some r → ∀ H, Ev P 120 [(.int .u8 x0)] H (.bool r) H
structure C_unicode_utf8_RuneStart (k : Nat) : Prop where
  unicode_utf8_RuneStart : S_unicode_utf8_RuneStart k
theorem t_unicode_utf8_RuneStart (k : Nat) (ih : C_unicode_utf8_RuneStart k) : S_unicode_utf8_RuneStart (k + 1) := by
  intro x0 r h H0
  rw [unicode_utf8_RuneStart] at h
  refine evc_intro a120 Go.Proofs.Tryd.func120 c120 (Nat.le_of_ble_eq_true rfl) (cl_cons rfl cl_nil) rfl ?_ H0
  generalize ([] : List (Option (List D))) = H
  show wpc (Ev P) a120_B (retN a120.res (.bool r)) _
  refine c_seq ?_
  refine c_reg ?_
  refine o_mvk ?_
  refine o_nil ?_
  refine k_then ?_
  refine c_seq ?_
  refine c_reg ?_
  refine o_mvt rfl (copy_of_int _ _) ?_
  refine o_bin (vt rfl (copy_of_int _ _)) (vk (copy_of_int _ _)) bin_and ?_
  refine o_bin (vt rfl (copy_of_int _ _)) (vk (copy_of_int _ _)) bin_neq ?_
  refine o_mvt rfl (copy_of_bool _) ?_
  refine o_nil ?_
  refine k_then ?_
  refine c_ret ?_
  obtain rfl := Option.some.inj h
  exact r_one rfl (res_t rfl (copy_of_bool _)) (.inl rfl)
theorem z_unicode_utf8_RuneStart : S_unicode_utf8_RuneStart 0 := by
  intro x0 r h H
  rw [unicode_utf8_RuneStart] at h; cases h
theorem C_unicode_utf8_RuneStart.all : ∀ k, C_unicode_utf8_RuneStart k
  | 0 => ⟨z_unicode_utf8_RuneStart⟩
  | k + 1 => ⟨t_unicode_utf8_RuneStart k (C_unicode_utf8_RuneStart.all k)⟩
theorem s_unicode_utf8_RuneStart (k : Nat) : S_unicode_utf8_RuneStart k := (C_unicode_utf8_RuneStart.all k).unicode_utf8_RuneStart
end Go.Am
