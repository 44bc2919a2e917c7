/- Functions over typed data, and that the program comes to their answers: printed by a program of this session. -/
import Derived.Test.YtgdjgoehofopnaaDoorSsF2
set_option linter.unusedSimpArgs false
set_option linter.unusedVariables false
set_option maxRecDepth 10000
namespace Go.Am
open Go
def a63_r0 : List AI := [
  { dst := some 6, op := .mv (.k (.bool false)) }]
def a63_r1 : List AI := [
  { dst := some 10, op := .mv (.t 0) },
  { dst := some 11, op := .len false (.t 10) },
  { dst := some 12, op := .mv (.t 1) },
  { dst := some 13, op := .len false (.t 12) },
  { dst := some 14, op := .bin .neq (.t 11) (.t 13) }]
def a63_r2 : List AI := [
  { dst := some 6, op := .mv (.k (.bool false)) }]
def a63_k1 : AC := (.cond (.t 14) (.seq (.reg a63_r2) .ret) .skip)
def a63_r3 : List AI := [
  { dst := some 15, op := .mv (.t 0) },
  { dst := some 16, op := .len false (.t 15) },
  { dst := some 17, op := .mv (.k (.int .i64 0)) }]
def a63_r4 : List AI := [
  { dst := some 18, op := .bin .lss (.t 17) (.t 16) }]
def a63_r5 : List AI := [
  { dst := some 19, op := .mv (.t 17) },
  { dst := some 20, op := .ias 7 (.t 15) (.t 17) },
  { dst := some 21, op := .ld (some 7) 20 },
  { dst := some 8, op := .alloc [.int .i64 0, .str [], .int .u64 0, .int .u64 0, .int .u64 0, .int .u64 0, .list []] },
  { dst := some 7, op := .mv (.t 19) },
  { dst := none, op := .st 7 8 (.t 21) }]
def a63_r6 : List AI := [
  { dst := some 22, op := .mv (.t 1) },
  { dst := some 23, op := .mv (.t 7) },
  { dst := some 24, op := .ias 7 (.t 22) (.t 23) },
  { dst := some 25, op := .ld (some 7) 24 },
  { dst := some 9, op := .alloc [.int .i64 0, .str [], .int .u64 0, .int .u64 0, .int .u64 0, .int .u64 0, .list []] },
  { dst := none, op := .st 7 9 (.t 25) }]
def a63_r7 : List AI := [
  { dst := some 26, op := .mv (.t 2) },
  { dst := some 27, op := .ld (some 7) 8 },
  { dst := some 28, op := .ld (some 7) 9 },
  { dst := some 29, op := .callv (.t 26) [(.t 27), (.t 28)] },
  { dst := some 30, op := .un .not (.t 29) }]
def a63_r8 : List AI := [
  { dst := some 6, op := .mv (.k (.bool false)) }]
def a63_k2 : AC := (.cond (.t 30) (.seq (.reg a63_r8) .ret) .skip)
def a63_k3 : AC := (.seq (.reg a63_r7) a63_k2)
def a63_k4 : AC := (.seq (.reg a63_r6) a63_k3)
def a63_r9 : List AI := [
  { dst := some 31, op := .bin .add (.t 17) (.k (.int .i64 1)) },
  { dst := some 17, op := .mv (.t 31) }]
def a63_k5 : AC := (.seq (.block 1 (.seq (.reg a63_r5) a63_k4)) (.reg a63_r9))
def a63_k6 : AC := (.seq (.cond (.t 18) .skip (.exit 0)) a63_k5)
def a63_L1 : AC := (.seq (.reg a63_r4) a63_k6)
def a63_k7 : AC := (.block 0 (.loop a63_L1))
def a63_r10 : List AI := [
  { dst := some 6, op := .mv (.k (.bool true)) }]
def a63_k8 : AC := (.seq (.reg a63_r10) .ret)
def a63_k9 : AC := (.seq (.seq (.reg a63_r3) a63_k7) a63_k8)
def a63_k10 : AC := (.seq (.seq (.reg a63_r1) a63_k1) a63_k9)
def a63_B : AC := (.seq (.reg a63_r0) a63_k10)
/-- slices.EqualFunc[[]catchpole/coded.Coded,[]catchpole/coded.Coded,catchpole/coded.Coded,catchpole/coded.Coded] -/
def a63 : AF := { N := 32, V := [8, 9], body := a63_B, res := [.t 6] }
theorem c63 : chkF P a63 Go.Proofs.Tryd.f63 = true := by kernel_rfl
mutual
/-- slices.EqualFunc[[]catchpole/coded.Coded,[]catchpole/coded.Coded,catchpole/coded.Coded,catchpole/coded.Coded] -/
def slices_EqualFunc_Lcoded_Coded_Lcoded_Coded_coded_Coded_coded_Coded (k : Nat) (x0 : (List T_coded_Coded)) (x1 : (List T_coded_Coded)) (p2 : T_coded_Coded → T_coded_Coded → Option Bool) : Option Bool := match k with
  | 0 => none
  | k + 1 =>
    if ((x0.length : Int) != (x1.length : Int)) = true then (some false)
    else slices_EqualFunc_Lcoded_Coded_Lcoded_Coded_coded_Coded_coded_Coded_L1 k p2 x1 x0 (x0.length : Int) 0
def slices_EqualFunc_Lcoded_Coded_Lcoded_Coded_coded_Coded_coded_Coded_L1 (k : Nat) (p2 : T_coded_Coded → T_coded_Coded → Option Bool) (t1 : (List T_coded_Coded)) (t15 : (List T_coded_Coded)) (t16 : Int) (t17 : Int) : Option Bool := match k with
  | 0 => none
  | k + 1 =>
    if (decide (t17 < t16)) = true then ((at_ t15 t17).bind fun y20 =>
    (at_ t1 t17).bind fun y24 =>
    (p2 y20 y24).bind fun y29 =>
    if (!y29) = true then (some false)
    else slices_EqualFunc_Lcoded_Coded_Lcoded_Coded_coded_Coded_coded_Coded_L1 k p2 t1 t15 t16 (IntKind.i64.wrap (t17 + 1)))
    else some true
end
def a63_q1 (R : Ex → St → Prop) : Ex → St → Prop := Ex.then (wpc (Ev P) a63_k8 R) R
def a63_q2 (R : Ex → St → Prop) : Ex → St → Prop := Ex.inBlock 0 (a63_q1 R)
def S_slices_EqualFunc_Lcoded_Coded_Lcoded_Coded_coded_Coded_coded_Coded (k : Nat) : Prop := ∀ (x0 : (List T_coded_Coded)) (x1 : (List T_coded_Coded)) (p2 : T_coded_Coded → T_coded_Coded → Option Bool) (g2 : Nat) (cs2 : List D) (H : List (Option (List D))) (hp2 : ∀ (a0 : T_coded_Coded) (a1 : T_coded_Coded) (r : Bool), p2 a0 a1 = some r → Ev P g2 ([(.agg (T_coded_Coded.cells lw a0)), (.agg (T_coded_Coded.cells lw a1))] ++ cs2) H (.bool r) H) (r : Bool), slices_EqualFunc_Lcoded_Coded_Lcoded_Coded_coded_Coded_coded_Coded k x0 x1 p2 = some r → Ev P 63 [(.list (x0.map T_coded_Coded.enc)), (.list (x1.map T_coded_Coded.enc)), (.fn g2 cs2)] H (.bool r) H
def S_slices_EqualFunc_Lcoded_Coded_Lcoded_Coded_coded_Coded_coded_Coded_L1 (k : Nat) : Prop := ∀ (p2 : T_coded_Coded → T_coded_Coded → Option Bool) (g2 : Nat) (cs2 : List D) (t1 : (List T_coded_Coded)) (t15 : (List T_coded_Coded)) (t16 : Int) (t17 : Int) (r : Bool) (ρ : Nat → Slot) (H : List (Option (List D))) (hp2 : ∀ (a0 : T_coded_Coded) (a1 : T_coded_Coded) (r : Bool), p2 a0 a1 = some r → Ev P g2 ([(.agg (T_coded_Coded.cells lw a0)), (.agg (T_coded_Coded.cells lw a1))] ++ cs2) H (.bool r) H), slices_EqualFunc_Lcoded_Coded_Lcoded_Coded_coded_Coded_coded_Coded_L1 k p2 t1 t15 t16 t17 = some r → wpc (Ev P) (.loop a63_L1) (a63_q2 (retQ a63.res (.bool r) H)) ⟨upds ρ [(1, .d (.list (t1.map T_coded_Coded.enc))), (2, .d (.fn g2 cs2)), (15, .d (.list (t15.map T_coded_Coded.enc))), (16, .d (.int .i64 t16)), (17, .d (.int .i64 t17))], H⟩
structure C_slices_EqualFunc_Lcoded_Coded_Lcoded_Coded_coded_Coded_coded_Coded (k : Nat) : Prop where
  slices_EqualFunc_Lcoded_Coded_Lcoded_Coded_coded_Coded_coded_Coded : S_slices_EqualFunc_Lcoded_Coded_Lcoded_Coded_coded_Coded_coded_Coded k
  slices_EqualFunc_Lcoded_Coded_Lcoded_Coded_coded_Coded_coded_Coded_L1 : S_slices_EqualFunc_Lcoded_Coded_Lcoded_Coded_coded_Coded_coded_Coded_L1 k
theorem t_slices_EqualFunc_Lcoded_Coded_Lcoded_Coded_coded_Coded_coded_Coded (k : Nat) (ih : C_slices_EqualFunc_Lcoded_Coded_Lcoded_Coded_coded_Coded_coded_Coded k) : S_slices_EqualFunc_Lcoded_Coded_Lcoded_Coded_coded_Coded_coded_Coded (k + 1) := by
  intro x0 x1 p2 g2 cs2 H hp2 r h
  rw [slices_EqualFunc_Lcoded_Coded_Lcoded_Coded_coded_Coded_coded_Coded] at h
  refine ev_intro a63 Go.Proofs.Tryd.func63 c63 (Nat.le_of_ble_eq_true rfl) ?_
  show wpc (Ev P) a63_B (retQ a63.res (.bool r) H) _
  refine c_seq ?_
  refine c_reg ?_
  refine o_mvk ?_
  refine o_nil ?_
  refine k_then ?_
  refine c_seq ?_
  refine c_seq ?_
  refine c_reg ?_
  refine o_mvt rfl (copy_of_list _) ?_
  refine o_len_l (vt rfl (copy_of_list _)) (fun _ => ?_)
  refine o_mvt rfl (copy_of_list _) ?_
  refine o_len_l (vt rfl (copy_of_list _)) (fun _ => ?_)
  refine o_bin (vt rfl (copy_of_int _ _)) (vt rfl (copy_of_int _ _)) bin_neq ?_
  refine o_nil ?_
  refine k_then ?_
  by_cases c1 : ((x0.length : Int) != (x1.length : Int)) = true
  · have h := it_t h c1
    refine c_cond_t (vt rfl (copy_of_bool _)) c1 ?_
    refine c_seq ?_
    refine c_reg ?_
    refine o_mvk ?_
    refine o_nil ?_
    refine k_then ?_
    refine c_ret ?_
    refine k_then_ret ?_
    obtain rfl := Option.some.inj h
    exact rq_one rfl (res_t rfl (copy_of_bool _)) (.inl rfl) rfl
  · have c1 := bf c1
    have h := it_f h c1
    refine c_cond_f (vt rfl (copy_of_bool _)) c1 ?_
    refine c_skip ?_
    refine k_then ?_
    refine c_seq ?_
    refine c_seq ?_
    refine c_reg ?_
    refine o_mvt rfl (copy_of_list _) ?_
    refine o_len_l (vt rfl (copy_of_list _)) (fun _ => ?_)
    refine o_mvk ?_
    refine o_nil ?_
    refine k_then ?_
    refine c_block ?_
    exact wpc_head (ih.slices_EqualFunc_Lcoded_Coded_Lcoded_Coded_coded_Coded_coded_Coded_L1 _ _ _ _ _ _ _ _ _ _ hp2 h) ⟨rfl, rfl, rfl, rfl, rfl, trivial⟩
theorem t_slices_EqualFunc_Lcoded_Coded_Lcoded_Coded_coded_Coded_coded_Coded_L1 (k : Nat) (ih : C_slices_EqualFunc_Lcoded_Coded_Lcoded_Coded_coded_Coded_coded_Coded k) : S_slices_EqualFunc_Lcoded_Coded_Lcoded_Coded_coded_Coded_coded_Coded_L1 (k + 1) := by
  intro p2 g2 cs2 t1 t15 t16 t17 r ρ H hp2 h
  rw [slices_EqualFunc_Lcoded_Coded_Lcoded_Coded_coded_Coded_coded_Coded_L1] at h
  refine wpc_loop_i ?_
  refine c_seq ?_
  refine c_reg ?_
  refine o_bin (vt rfl (copy_of_int _ _)) (vt rfl (copy_of_int _ _)) bin_lss ?_
  refine o_nil ?_
  refine k_then ?_
  refine c_seq ?_
  by_cases c1 : (decide (t17 < t16)) = true
  · have h := it_t h c1
    refine c_cond_t (vt rfl (copy_of_bool _)) c1 ?_
    refine c_skip ?_
    refine k_then ?_
    refine c_seq ?_
    refine c_block ?_
    refine c_seq ?_
    refine c_reg ?_
    refine o_mvt rfl (copy_of_int _ _) ?_
    obtain ⟨y20, hy20, h⟩ := bind_some h
    refine o_ias (vt rfl (copy_of_list _)) (vt rfl (copy_of_int _ _)) hy20 (T_coded_Coded.enc_cells _) (T_coded_Coded.len lw _) ?_
    refine o_ldi rfl (cut_all (T_coded_Coded.len _ _)) (T_coded_Coded.copy wr_l _) ?_
    refine o_alloc (cs := T_coded_Coded.cells lw (T_coded_Coded.mk 0 [] (Arr.rep 4 0) [])) rfl ?_
    refine o_mvt rfl (copy_of_int _ _) ?_
    refine o_st rfl (lv_v rfl) (gt_ rfl (copy_of_agg _)) (cells_of_agg _) (T_coded_Coded.len _ _) (T_coded_Coded.one wr_l _) rfl (splice_all (n := 7) (T_coded_Coded.len _ _) (T_coded_Coded.len _ _)) ?_
    refine o_nil ?_
    refine k_then ?_
    refine c_seq ?_
    refine c_reg ?_
    refine o_mvt rfl (copy_of_list _) ?_
    refine o_mvt rfl (copy_of_int _ _) ?_
    obtain ⟨y24, hy24, h⟩ := bind_some h
    refine o_ias (vt rfl (copy_of_list _)) (vt rfl (copy_of_int _ _)) hy24 (T_coded_Coded.enc_cells _) (T_coded_Coded.len lw _) ?_
    refine o_ldi rfl (cut_all (T_coded_Coded.len _ _)) (T_coded_Coded.copy wr_l _) ?_
    refine o_alloc (cs := T_coded_Coded.cells lw (T_coded_Coded.mk 0 [] (Arr.rep 4 0) [])) rfl ?_
    refine o_st rfl (lv_v rfl) (gt_ rfl (copy_of_agg _)) (cells_of_agg _) (T_coded_Coded.len _ _) (T_coded_Coded.one wr_l _) rfl (splice_all (n := 7) (T_coded_Coded.len _ _) (T_coded_Coded.len _ _)) ?_
    refine o_nil ?_
    refine k_then ?_
    refine c_seq ?_
    refine c_reg ?_
    refine o_mvt rfl (copy_of_fn _ _) ?_
    refine o_ld (lv_v rfl) rfl (cut_all (T_coded_Coded.len _ _)) (T_coded_Coded.copy wr_l _) ?_
    refine o_ld (lv_v rfl) rfl (cut_all (T_coded_Coded.len _ _)) (T_coded_Coded.copy wr_l _) ?_
    obtain ⟨y29, hy29, h⟩ := bind_some h
    refine o_callv rfl  (vt rfl (copy_of_fn _ _)) (g_cons (gt_ rfl (copy_of_agg _)) (g_cons (gt_ rfl (copy_of_agg _)) g_nil)) (hp2 _ _ _ hy29) ?_
    refine o_un (vt rfl (copy_of_bool _)) un_not ?_
    refine o_nil ?_
    refine k_then ?_
    by_cases c2 : (!y29) = true
    · have h := it_t h c2
      refine c_cond_t (vt rfl (copy_of_bool _)) c2 ?_
      refine c_seq ?_
      refine c_reg ?_
      refine o_mvk ?_
      refine o_nil ?_
      refine k_then ?_
      refine c_ret ?_
      refine k_block_ret ?_
      refine k_then_ret ?_
      refine k_then_ret ?_
      refine k_block_ret ?_
      refine k_then_ret ?_
      obtain rfl := Option.some.inj h
      exact rq_one rfl (res_t rfl (copy_of_bool _)) (.inl rfl) rfl
    · have c2 := bf c2
      have h := it_f h c2
      refine c_cond_f (vt rfl (copy_of_bool _)) c2 ?_
      refine c_skip ?_
      refine k_block _ ?_
      refine k_then ?_
      refine c_reg ?_
      refine o_bin (vt rfl (copy_of_int _ _)) (vk (copy_of_int _ _)) bin_add ?_
      refine o_mvt rfl (copy_of_int _ _) ?_
      refine o_nil ?_
      refine k_then ?_
      exact wpc_head (ih.slices_EqualFunc_Lcoded_Coded_Lcoded_Coded_coded_Coded_coded_Coded_L1 _ _ _ _ _ _ _ _ _ _ hp2 h) ⟨rfl, rfl, rfl, rfl, rfl, trivial⟩
  · have c1 := bf c1
    have h := it_f h c1
    refine c_cond_f (vt rfl (copy_of_bool _)) c1 ?_
    refine c_exit ?_
    refine k_then_exit ?_
    refine k_then_exit ?_
    refine k_block_exit _ ?_
    refine k_then ?_
    refine c_seq ?_
    refine c_reg ?_
    refine o_mvk ?_
    refine o_nil ?_
    refine k_then ?_
    refine c_ret ?_
    obtain rfl := Option.some.inj h
    exact rq_one rfl (res_t rfl (copy_of_bool _)) (.inl rfl) rfl
theorem z_slices_EqualFunc_Lcoded_Coded_Lcoded_Coded_coded_Coded_coded_Coded : S_slices_EqualFunc_Lcoded_Coded_Lcoded_Coded_coded_Coded_coded_Coded 0 := by
  intro x0 x1 p2 g2 cs2 H hp2 r h
  rw [slices_EqualFunc_Lcoded_Coded_Lcoded_Coded_coded_Coded_coded_Coded] at h; cases h
theorem z_slices_EqualFunc_Lcoded_Coded_Lcoded_Coded_coded_Coded_coded_Coded_L1 : S_slices_EqualFunc_Lcoded_Coded_Lcoded_Coded_coded_Coded_coded_Coded_L1 0 := by
  intro p2 g2 cs2 t1 t15 t16 t17 r ρ H hp2 h
  rw [slices_EqualFunc_Lcoded_Coded_Lcoded_Coded_coded_Coded_coded_Coded_L1] at h; cases h
theorem C_slices_EqualFunc_Lcoded_Coded_Lcoded_Coded_coded_Coded_coded_Coded.all : ∀ k, C_slices_EqualFunc_Lcoded_Coded_Lcoded_Coded_coded_Coded_coded_Coded k
  | 0 => ⟨z_slices_EqualFunc_Lcoded_Coded_Lcoded_Coded_coded_Coded_coded_Coded, z_slices_EqualFunc_Lcoded_Coded_Lcoded_Coded_coded_Coded_coded_Coded_L1⟩
  | k + 1 => ⟨t_slices_EqualFunc_Lcoded_Coded_Lcoded_Coded_coded_Coded_coded_Coded k (C_slices_EqualFunc_Lcoded_Coded_Lcoded_Coded_coded_Coded_coded_Coded.all k), t_slices_EqualFunc_Lcoded_Coded_Lcoded_Coded_coded_Coded_coded_Coded_L1 k (C_slices_EqualFunc_Lcoded_Coded_Lcoded_Coded_coded_Coded_coded_Coded.all k)⟩
theorem s_slices_EqualFunc_Lcoded_Coded_Lcoded_Coded_coded_Coded_coded_Coded (k : Nat) : S_slices_EqualFunc_Lcoded_Coded_Lcoded_Coded_coded_Coded_coded_Coded k := (C_slices_EqualFunc_Lcoded_Coded_Lcoded_Coded_coded_Coded_coded_Coded.all k).slices_EqualFunc_Lcoded_Coded_Lcoded_Coded_coded_Coded_coded_Coded
def a38_r0 : List AI := [
  { dst := some 2, op := .box (.t 0) },
  { dst := some 3, op := .box (.t 1) },
  { dst := some 4, op := .mv (.k (.bool false)) }]
def a38_r1 : List AI := [
  { dst := some 5, op := .fa 2 0 },
  { dst := some 6, op := .ld none 5 },
  { dst := some 7, op := .fa 3 0 },
  { dst := some 8, op := .ld none 7 },
  { dst := some 9, op := .bin .eql (.t 6) (.t 8) },
  { dst := some 10, op := .mv (.t 9) },
  { dst := some 11, g := some (10, true), op := .fa 2 2 },
  { dst := some 12, g := some (10, true), op := .ld (some 4) 11 },
  { dst := some 13, g := some (10, true), op := .fa 3 2 },
  { dst := some 14, g := some (10, true), op := .ld (some 4) 13 },
  { dst := some 15, g := some (10, true), op := .eqv false .int 4 (.t 12) (.t 14) },
  { dst := some 16, op := .pick (.t 10) (.t 15) (.k (.bool false)) },
  { dst := some 17, op := .mv (.t 16) },
  { dst := some 18, g := some (17, true), op := .fa 2 6 },
  { dst := some 19, g := some (17, true), op := .ld none 18 },
  { dst := some 20, g := some (17, true), op := .fa 3 6 },
  { dst := some 21, g := some (17, true), op := .ld none 20 },
  { dst := some 22, g := some (17, true), op := .call 63 [(.t 19), (.t 21), (.k (.fn 38 []))] },
  { dst := some 23, op := .pick (.t 17) (.t 22) (.k (.bool false)) },
  { dst := some 4, op := .mv (.t 23) }]
def a38_k1 : AC := (.seq (.reg a38_r1) .ret)
def a38_B : AC := (.seq (.reg a38_r0) a38_k1)
/-- catchpole/coded.Same -/
def a38 : AF := { N := 24, V := [2, 3], body := a38_B, res := [.t 4] }
theorem c38 : chkF P a38 Go.Proofs.Tryd.f38 = true := by kernel_rfl
/-- catchpole/coded.Same -/
def coded_Same (k : Nat) (x0 : T_coded_Coded) (x1 : T_coded_Coded) : Option Bool := match k with
  | 0 => none
  | k + 1 =>
    if ((x0.Kind == x1.Kind) && (x0.Set == x1.Set)) = true then ((slices_EqualFunc_Lcoded_Coded_Lcoded_Coded_coded_Coded_coded_Coded k x0.L x1.L (fun a0 a1 => coded_Same k a0 a1)).bind fun y22 =>
    some y22)
    else some false
def a38_q1 (R : Ex → St → Prop) : Ex → St → Prop := Ex.then (wpc (Ev P) .ret R) R
def S_coded_Same (k : Nat) : Prop := ∀ (x0 : T_coded_Coded) (x1 : T_coded_Coded) (r : Bool), coded_Same k x0 x1 = some r → ∀ H, Ev P 38 [(.agg (T_coded_Coded.cells lw x0)), (.agg (T_coded_Coded.cells lw x1))] H (.bool r) H
structure C_coded_Same (k : Nat) : Prop where
  coded_Same : S_coded_Same k
theorem t_coded_Same (k : Nat) (ih : C_coded_Same k) : S_coded_Same (k + 1) := by
  intro x0 x1 r h H0
  rw [coded_Same] at h
  refine evc_intro a38 Go.Proofs.Tryd.func38 c38 (Nat.le_of_ble_eq_true rfl) (cl_cons (T_coded_Coded.closed _) (cl_cons (T_coded_Coded.closed _) cl_nil)) rfl ?_ H0
  generalize ([] : List (Option (List D))) = H
  show wpc (Ev P) a38_B (retN a38.res (.bool r)) _
  refine c_seq ?_
  refine c_reg ?_
  refine o_box (vt rfl (copy_of_agg _)) (T_coded_Coded.one wr_l _) (T_coded_Coded.copy wr_l _) ?_
  refine o_box (vt rfl (copy_of_agg _)) (T_coded_Coded.one wr_l _) (T_coded_Coded.copy wr_l _) ?_
  refine o_mvk ?_
  refine o_nil ?_
  refine k_then ?_
  refine c_seq ?_
  refine c_reg ?_
  refine o_fa (lv_v rfl) ?_
  refine o_ld1 (lv_l rfl) rfl (T_coded_Coded.cut_Kind lw _) (copy_of_int _ _) ?_
  refine o_fa (lv_v rfl) ?_
  refine o_ld1 (lv_l rfl) rfl (T_coded_Coded.cut_Kind lw _) (copy_of_int _ _) ?_
  refine o_bin (vt rfl (copy_of_int _ _)) (vt rfl (copy_of_int _ _)) bin_eql ?_
  refine o_mvt rfl (copy_of_bool _) ?_
  have key1 : ∀ ρ : Nat → Slot, wpo (Ev P) (a38_r1.drop 12) ((a38_q1 (retN a38.res (.bool r))) .normal) ⟨upds ρ [(2, .var (T_coded_Coded.cells lw x0)), (3, .var (T_coded_Coded.cells lw x1)), (16, .d (.bool ((x0.Kind == x1.Kind) && (x0.Set == x1.Set))))], H⟩ := by
    intro ρ
    refine o_mvt rfl (copy_of_bool _) ?_
    by_cases c3 : ((x0.Kind == x1.Kind) && (x0.Set == x1.Set)) = true
    · have h := it_t h c3
      refine o_g_t rfl c3 ?_
      refine o_fa (lv_v rfl) ?_
      refine o_g_t rfl c3 ?_
      refine o_ld1 (lv_l rfl) rfl (T_coded_Coded.cut_L lw _) (Wr.copy wr_l _ _) ?_
      refine o_g_t rfl c3 ?_
      refine o_fa (lv_v rfl) ?_
      refine o_g_t rfl c3 ?_
      refine o_ld1 (lv_l rfl) rfl (T_coded_Coded.cut_L lw _) (Wr.copy wr_l _ _) ?_
      refine o_g_t rfl c3 ?_
      obtain ⟨y22, hy22, h⟩ := bind_some h
      refine o_call rfl (g_cons (gt_ rfl (copy_of_list _)) (g_cons (gt_ rfl (copy_of_list _)) (g_cons gk_ g_nil))) (s_slices_EqualFunc_Lcoded_Coded_Lcoded_Coded_coded_Coded_coded_Coded k _ _ (fun a0 a1 => coded_Same k a0 a1) _ _ _ (fun a0 a1 r h => ih.coded_Same a0 a1 r h _) _ hy22) ?_
      refine o_pick_t (vt rfl (copy_of_bool _)) c3 (vt rfl (copy_of_bool _)) ?_
      refine o_mvt rfl (copy_of_bool _) ?_
      refine o_nil ?_
      refine k_then ?_
      refine c_ret ?_
      obtain rfl := Option.some.inj h
      exact r_one rfl (res_t rfl (copy_of_bool _)) (.inl rfl)
    · have c3 := bf c3
      have h := it_f h c3
      refine o_g_f rfl (ne_f c3) ?_
      refine o_g_f rfl (ne_f c3) ?_
      refine o_g_f rfl (ne_f c3) ?_
      refine o_g_f rfl (ne_f c3) ?_
      refine o_g_f rfl (ne_f c3) ?_
      refine o_pick_f (vt rfl (copy_of_bool _)) c3 (vk (copy_of_bool _)) ?_
      refine o_mvt rfl (copy_of_bool _) ?_
      refine o_nil ?_
      refine k_then ?_
      refine c_ret ?_
      obtain rfl := Option.some.inj h
      exact r_one rfl (res_t rfl (copy_of_bool _)) (.inl rfl)
  by_cases c2 : (x0.Kind == x1.Kind) = true
  · clear h
    refine o_g_t rfl c2 ?_
    refine o_fa (lv_v rfl) ?_
    refine o_g_t rfl c2 ?_
    refine o_ld (lv_l rfl) rfl (T_coded_Coded.cut_Set lw _) cm_int ?_
    refine o_g_t rfl c2 ?_
    refine o_fa (lv_v rfl) ?_
    refine o_g_t rfl c2 ?_
    refine o_ld (lv_l rfl) rfl (T_coded_Coded.cut_Set lw _) cm_int ?_
    refine o_g_t rfl c2 ?_
    refine o_eqv (vt rfl (copy_of_agg _)) (vt rfl (copy_of_agg _)) deq_arr_int ?_
    refine o_pick_t (vt rfl (copy_of_bool _)) c2 (vt rfl (copy_of_bool _)) ?_
    exact wpo_head (key1 _) ⟨rfl, rfl, (by simp only [c2]; rfl), trivial⟩
  · clear h
    have c2 := bf c2
    refine o_g_f rfl (ne_f c2) ?_
    refine o_g_f rfl (ne_f c2) ?_
    refine o_g_f rfl (ne_f c2) ?_
    refine o_g_f rfl (ne_f c2) ?_
    refine o_g_f rfl (ne_f c2) ?_
    refine o_pick_f (vt rfl (copy_of_bool _)) c2 (vk (copy_of_bool _)) ?_
    exact wpo_head (key1 _) ⟨rfl, rfl, (by simp only [c2]; rfl), trivial⟩
theorem z_coded_Same : S_coded_Same 0 := by
  intro x0 x1 r h H
  rw [coded_Same] at h; cases h
theorem C_coded_Same.all : ∀ k, C_coded_Same k
  | 0 => ⟨z_coded_Same⟩
  | k + 1 => ⟨t_coded_Same k (C_coded_Same.all k)⟩
theorem s_coded_Same (k : Nat) : S_coded_Same k := (C_coded_Same.all k).coded_Same
def a37_r0 : List AI := [
  { dst := some 2, op := .box (.t 0) },
  { dst := some 3, op := .mv (.k (.bool false)) }]
def a37_r1 : List AI := [
  { dst := some 4, op := .ld (some 7) 1 },
  { dst := some 5, op := .ld (some 7) 2 },
  { dst := some 6, op := .call 38 [(.t 4), (.t 5)] },
  { dst := some 3, op := .mv (.t 6) }]
def a37_k1 : AC := (.seq (.reg a37_r1) .ret)
def a37_B : AC := (.seq (.reg a37_r0) a37_k1)
/-- catchpole/simp.Once$1 -/
def a37 : AF := { N := 7, V := [2], body := a37_B, res := [.t 3] }
theorem c37 : chkF P a37 Go.Proofs.Tryd.f37 = true := by kernel_rfl
/-- catchpole/simp.Once$1 -/
def simp_Once_c1 (k : Nat) (x0 : T_coded_Coded) (o1 : T_coded_Coded) : Option Bool := match k with
  | 0 => none
  | k + 1 =>
    (coded_Same k o1 x0).bind fun y6 =>
    some y6
def S_simp_Once_c1 (k : Nat) : Prop := ∀ (x0 : T_coded_Coded) (b1 : Nat) (o1 : T_coded_Coded) (H : List (Option (List D))) (hb1 : objH H b1 = some (T_coded_Coded.cells lw o1)) (r : Bool), simp_Once_c1 k x0 o1 = some r → Ev P 37 [(.agg (T_coded_Coded.cells lw x0)), (.ptr b1 0)] H (.bool r) H
structure C_simp_Once_c1 (k : Nat) : Prop where
  simp_Once_c1 : S_simp_Once_c1 k
theorem t_simp_Once_c1 (k : Nat) (ih : C_simp_Once_c1 k) : S_simp_Once_c1 (k + 1) := by
  intro x0 b1 o1 H hb1 r h
  rw [simp_Once_c1] at h
  refine ev_intro a37 Go.Proofs.Tryd.func37 c37 (Nat.le_of_ble_eq_true rfl) ?_
  show wpc (Ev P) a37_B (retQ a37.res (.bool r) H) _
  refine c_seq ?_
  refine c_reg ?_
  refine o_box (vt rfl (copy_of_agg _)) (T_coded_Coded.one wr_l _) (T_coded_Coded.copy wr_l _) ?_
  refine o_mvk ?_
  refine o_nil ?_
  refine k_then ?_
  refine c_seq ?_
  refine c_reg ?_
  refine o_ldo rfl hb1 (cut_all (T_coded_Coded.len _ _)) (T_coded_Coded.copy wr_l _) ?_
  refine o_ld (lv_v rfl) rfl (cut_all (T_coded_Coded.len _ _)) (T_coded_Coded.copy wr_l _) ?_
  obtain ⟨y6, hy6, h⟩ := bind_some h
  refine o_call rfl (g_cons (gt_ rfl (copy_of_agg _)) (g_cons (gt_ rfl (copy_of_agg _)) g_nil)) (s_coded_Same k _ _ _ hy6 _) ?_
  refine o_mvt rfl (copy_of_bool _) ?_
  refine o_nil ?_
  refine k_then ?_
  refine c_ret ?_
  obtain rfl := Option.some.inj h
  exact rq_one rfl (res_t rfl (copy_of_bool _)) (.inl rfl) rfl
theorem z_simp_Once_c1 : S_simp_Once_c1 0 := by
  intro x0 b1 o1 H hb1 r h
  rw [simp_Once_c1] at h; cases h
theorem C_simp_Once_c1.all : ∀ k, C_simp_Once_c1 k
  | 0 => ⟨z_simp_Once_c1⟩
  | k + 1 => ⟨t_simp_Once_c1 k (C_simp_Once_c1.all k)⟩
theorem s_simp_Once_c1 (k : Nat) : S_simp_Once_c1 k := (C_simp_Once_c1.all k).simp_Once_c1
def a12_r0 : List AI := [
  { dst := some 2, op := .mv (.k (.list [])) }]
def a12_r1 : List AI := [
  { dst := some 3, op := .mv (.k (.own 27 [])) }]
def a12_r2 : List AI := [
  { dst := some 6, op := .mv (.t 0) },
  { dst := some 7, op := .len false (.t 6) },
  { dst := some 8, op := .mv (.k (.int .i64 0)) }]
def a12_r3 : List AI := [
  { dst := some 9, op := .bin .lss (.t 8) (.t 7) }]
def a12_r4 : List AI := [
  { dst := some 10, op := .ias 7 (.t 6) (.t 8) },
  { dst := some 11, op := .ld (some 7) 10 },
  { dst := some 5, op := .allocH [.int .i64 0, .str [], .int .u64 0, .int .u64 0, .int .u64 0, .int .u64 0, .list []] },
  { dst := none, op := .st 7 5 (.t 11) }]
def a12_r5 : List AI := [
  { dst := some 12, op := .mv (.t 3) },
  { dst := some 13, op := .mkf 37 [(.t 5)] },
  { dst := some 14, op := .call 36 [(.t 12), (.t 13)] },
  { dst := some 15, op := .un .not (.t 14) }]
def a12_r6 : List AI := [
  { dst := some 16, op := .mv (.x 3) },
  { dst := some 17, op := .ld (some 7) 5 },
  { dst := some 18, op := .bsl 27 7 [(.t 17)] },
  { dst := some 19, op := .app 27 7 80 16 (.t 18) },
  { dst := some 3, op := .mv (.x 19) }]
def a12_k1 : AC := (.cond (.t 15) (.reg a12_r6) .skip)
def a12_k2 : AC := (.seq (.reg a12_r5) a12_k1)
def a12_r7 : List AI := [
  { dst := some 20, op := .bin .add (.t 8) (.k (.int .i64 1)) },
  { dst := some 8, op := .mv (.t 20) }]
def a12_k3 : AC := (.seq (.block 1 (.seq (.reg a12_r4) a12_k2)) (.reg a12_r7))
def a12_k4 : AC := (.seq (.cond (.t 9) .skip (.exit 0)) a12_k3)
def a12_L1 : AC := (.seq (.reg a12_r3) a12_k4)
def a12_k5 : AC := (.block 0 (.loop a12_L1))
def a12_r8 : List AI := [
  { dst := some 21, op := .mv (.t 3) },
  { dst := some 2, op := .mv (.t 21) }]
def a12_k6 : AC := (.seq (.reg a12_r8) .ret)
def a12_k7 : AC := (.seq (.seq (.reg a12_r2) a12_k5) a12_k6)
def a12_k8 : AC := (.seq (.reg a12_r1) a12_k7)
def a12_B : AC := (.seq (.reg a12_r0) a12_k8)
/-- catchpole/simp.Once -/
def a12 : AF := { N := 22, V := [], body := a12_B, res := [.t 2] }
theorem c12 : chkF P a12 Go.Proofs.Tryd.f12 = true := by kernel_rfl
mutual
/-- catchpole/simp.Once -/
def simp_Once (k : Nat) (x0 : (List T_coded_Coded)) : Option (List T_coded_Coded) := match k with
  | 0 => none
  | k + 1 =>
    simp_Once_L1 k [] x0 (x0.length : Int) 0
def simp_Once_L1 (k : Nat) (t3 : (List T_coded_Coded)) (t6 : (List T_coded_Coded)) (t7 : Int) (t8 : Int) : Option (List T_coded_Coded) := match k with
  | 0 => none
  | k + 1 =>
    if (decide (t8 < t7)) = true then ((at_ t6 t8).bind fun y10 =>
    (slices_ContainsFunc_Lcoded_Coded_coded_Coded k t3 (fun a0 => simp_Once_c1 k a0 y10)).bind fun y14 =>
    if (!y14) = true then (need ((t3.length + ([y10]).length) * 80 ≤ 140737488351232 ∧ t3.length + ([y10]).length ≤ 140737488351232) <|
    simp_Once_J1 k (t3 ++ ([y10])) t6 t7 t8)
    else simp_Once_J1 k t3 t6 t7 t8)
    else some t3
def simp_Once_J1 (k : Nat) (t3 : (List T_coded_Coded)) (t6 : (List T_coded_Coded)) (t7 : Int) (t8 : Int) : Option (List T_coded_Coded) := match k with
  | 0 => none
  | k + 1 =>
    simp_Once_L1 k t3 t6 t7 (IntKind.i64.wrap (t8 + 1))
end
def a12_q1 (R : Ex → St → Prop) : Ex → St → Prop := Ex.then (wpc (Ev P) a12_k6 R) R
def a12_q2 (R : Ex → St → Prop) : Ex → St → Prop := Ex.inBlock 0 (a12_q1 R)
def a12_q3 (R : Ex → St → Prop) : Ex → St → Prop := Ex.then (wpc (Ev P) (.loop a12_L1) (a12_q2 R)) (a12_q2 R)
def S_simp_Once (k : Nat) : Prop := ∀ (x0 : (List T_coded_Coded)) (r : (List T_coded_Coded)), simp_Once k x0 = some r → ∀ H, Ev P 12 [(.list (x0.map T_coded_Coded.enc))] H (.list (r.map T_coded_Coded.enc)) H
def S_simp_Once_L1 (k : Nat) : Prop := ∀ (t3 : (List T_coded_Coded)) (t6 : (List T_coded_Coded)) (t7 : Int) (t8 : Int) (r : (List T_coded_Coded)) (ρ : Nat → Slot) (H : List (Option (List D))) , simp_Once_L1 k t3 t6 t7 t8 = some r → wpc (Ev P) (.loop a12_L1) (a12_q2 (retN a12.res (.list (r.map T_coded_Coded.enc)))) ⟨upds ρ [(3, .d (.own 27 (t3.map T_coded_Coded.enc))), (6, .d (.list (t6.map T_coded_Coded.enc))), (7, .d (.int .i64 t7)), (8, .d (.int .i64 t8))], H⟩
def S_simp_Once_J1 (k : Nat) : Prop := ∀ (t3 : (List T_coded_Coded)) (t6 : (List T_coded_Coded)) (t7 : Int) (t8 : Int) (r : (List T_coded_Coded)) (ρ : Nat → Slot) (H : List (Option (List D))) , simp_Once_J1 k t3 t6 t7 t8 = some r → wpc (Ev P) (.reg a12_r7) (a12_q3 (retN a12.res (.list (r.map T_coded_Coded.enc)))) ⟨upds ρ [(3, .d (.own 27 (t3.map T_coded_Coded.enc))), (6, .d (.list (t6.map T_coded_Coded.enc))), (7, .d (.int .i64 t7)), (8, .d (.int .i64 t8))], H⟩
structure C_simp_Once (k : Nat) : Prop where
  simp_Once : S_simp_Once k
  simp_Once_L1 : S_simp_Once_L1 k
  simp_Once_J1 : S_simp_Once_J1 k
theorem t_simp_Once (k : Nat) (ih : C_simp_Once k) : S_simp_Once (k + 1) := by
  intro x0 r h H0
  rw [simp_Once] at h
  refine evc_intro a12 Go.Proofs.Tryd.func12 c12 (Nat.le_of_ble_eq_true rfl) (cl_cons rfl cl_nil) rfl ?_ H0
  generalize ([] : List (Option (List D))) = H
  show wpc (Ev P) a12_B (retN a12.res (.list (r.map T_coded_Coded.enc))) _
  refine c_seq ?_
  refine c_reg ?_
  refine o_mvk ?_
  refine o_nil ?_
  refine k_then ?_
  refine c_seq ?_
  refine c_reg ?_
  refine o_mvk ?_
  refine o_nil ?_
  refine k_then ?_
  refine c_seq ?_
  refine c_seq ?_
  refine c_reg ?_
  refine o_mvt rfl (copy_of_list _) ?_
  refine o_len_l (vt rfl (copy_of_list _)) (fun _ => ?_)
  refine o_mvk ?_
  refine o_nil ?_
  refine k_then ?_
  refine c_block ?_
  exact wpc_head (ih.simp_Once_L1 _ _ _ _ _ _ _ h) ⟨rfl, rfl, rfl, rfl, trivial⟩
theorem t_simp_Once_L1 (k : Nat) (ih : C_simp_Once k) : S_simp_Once_L1 (k + 1) := by
  intro t3 t6 t7 t8 r ρ H h
  rw [simp_Once_L1] at h
  refine wpc_loop_i ?_
  refine c_seq ?_
  refine c_reg ?_
  refine o_bin (vt rfl (copy_of_int _ _)) (vt rfl (copy_of_int _ _)) bin_lss ?_
  refine o_nil ?_
  refine k_then ?_
  refine c_seq ?_
  by_cases c1 : (decide (t8 < t7)) = true
  · have h := it_t h c1
    refine c_cond_t (vt rfl (copy_of_bool _)) c1 ?_
    refine c_skip ?_
    refine k_then ?_
    refine c_seq ?_
    refine c_block ?_
    refine c_seq ?_
    refine c_reg ?_
    obtain ⟨y10, hy10, h⟩ := bind_some h
    refine o_ias (vt rfl (copy_of_list _)) (vt rfl (copy_of_int _ _)) hy10 (T_coded_Coded.enc_cells _) (T_coded_Coded.len lw _) ?_
    refine o_ldi rfl (cut_all (T_coded_Coded.len _ _)) (T_coded_Coded.copy wr_l _) ?_
    refine o_alloch' (cs := T_coded_Coded.cells lw (T_coded_Coded.mk 0 [] (Arr.rep 4 0) [])) rfl (fun b5 H hb5 keep => ?_)
    clear keep
    refine o_sto' rfl rfl (gt_ rfl (copy_of_agg _)) (cells_of_agg _) (T_coded_Coded.len _ _) (T_coded_Coded.one wr_l _) hb5 (splice_all (n := 7) (T_coded_Coded.len _ _) (T_coded_Coded.len _ _)) (fun H hb5 keep => ?_)
    clear keep
    refine o_nil ?_
    refine k_then ?_
    refine c_seq ?_
    refine c_reg ?_
    refine o_mvt rfl (copy_of_own _ _) ?_
    refine o_mkf (v_cons (vt rfl (copy_of_ptr _ _)) v_nil) ?_
    obtain ⟨y14, hy14, h⟩ := bind_some h
    refine o_call rfl (g_cons (gt_ rfl (copy_of_list _)) (g_cons (gt_ rfl (copy_of_fn _ _)) g_nil)) (s_slices_ContainsFunc_Lcoded_Coded_coded_Coded k _ (fun a0 => simp_Once_c1 k a0 y10) _ _ _ (fun a0 r h => s_simp_Once_c1 k a0 _ _ _ hb5 r h) _ hy14) ?_
    refine o_un (vt rfl (copy_of_bool _)) un_not ?_
    refine o_nil ?_
    refine k_then ?_
    by_cases c2 : (!y14) = true
    · have h := it_t h c2
      refine c_cond_t (vt rfl (copy_of_bool _)) c2 ?_
      refine c_reg ?_
      refine o_mvx rfl ?_
      refine o_ldo rfl hb5 (cut_all (T_coded_Coded.len _ _)) (T_coded_Coded.copy wr_l _) ?_
      refine o_bsl (f := T_coded_Coded.enc) (v_cons (vt rfl (copy_of_agg _)) v_nil) (l_cons (T_coded_Coded.enc_eq _).symm l_nil) T_coded_Coded.elem ?_
      obtain ⟨c3, h⟩ := need_some h
      refine o_app (f := T_coded_Coded.enc) (xs := t3) (ys := ([y10])) T_coded_Coded.elem rfl (vt rfl (copy_of_own _ _)) c3 ?_
      refine o_mvx rfl ?_
      refine o_nil ?_
      refine k_block _ ?_
      refine k_then ?_
      exact wpc_head (ih.simp_Once_J1 _ _ _ _ _ _ _ h) ⟨rfl, rfl, rfl, rfl, trivial⟩
    · have c2 := bf c2
      have h := it_f h c2
      refine c_cond_f (vt rfl (copy_of_bool _)) c2 ?_
      refine c_skip ?_
      refine k_block _ ?_
      refine k_then ?_
      exact wpc_head (ih.simp_Once_J1 _ _ _ _ _ _ _ h) ⟨rfl, rfl, rfl, rfl, trivial⟩
  · have c1 := bf c1
    have h := it_f h c1
    refine c_cond_f (vt rfl (copy_of_bool _)) c1 ?_
    refine c_exit ?_
    refine k_then_exit ?_
    refine k_then_exit ?_
    refine k_block_exit _ ?_
    refine k_then ?_
    refine c_seq ?_
    refine c_reg ?_
    refine o_mvt rfl (copy_of_own _ _) ?_
    refine o_mvt rfl (copy_of_list _) ?_
    refine o_nil ?_
    refine k_then ?_
    refine c_ret ?_
    obtain rfl := Option.some.inj h
    exact r_one rfl (res_t rfl (copy_of_list _)) (.inl rfl)
theorem t_simp_Once_J1 (k : Nat) (ih : C_simp_Once k) : S_simp_Once_J1 (k + 1) := by
  intro t3 t6 t7 t8 r ρ H h
  rw [simp_Once_J1] at h
  refine c_reg ?_
  refine o_bin (vt rfl (copy_of_int _ _)) (vk (copy_of_int _ _)) bin_add ?_
  refine o_mvt rfl (copy_of_int _ _) ?_
  refine o_nil ?_
  refine k_then ?_
  exact wpc_head (ih.simp_Once_L1 _ _ _ _ _ _ _ h) ⟨rfl, rfl, rfl, rfl, trivial⟩
theorem z_simp_Once : S_simp_Once 0 := by
  intro x0 r h H
  rw [simp_Once] at h; cases h
theorem z_simp_Once_L1 : S_simp_Once_L1 0 := by
  intro t3 t6 t7 t8 r ρ H h
  rw [simp_Once_L1] at h; cases h
theorem z_simp_Once_J1 : S_simp_Once_J1 0 := by
  intro t3 t6 t7 t8 r ρ H h
  rw [simp_Once_J1] at h; cases h
theorem C_simp_Once.all : ∀ k, C_simp_Once k
  | 0 => ⟨z_simp_Once, z_simp_Once_L1, z_simp_Once_J1⟩
  | k + 1 => ⟨t_simp_Once k (C_simp_Once.all k), t_simp_Once_L1 k (C_simp_Once.all k), t_simp_Once_J1 k (C_simp_Once.all k)⟩
theorem s_simp_Once (k : Nat) : S_simp_Once k := (C_simp_Once.all k).simp_Once
def a40_r0 : List AI := [
  { dst := some 1, op := .box (.t 0) },
  { dst := some 2, op := .alloc [.int .i64 0, .str [], .int .u64 0, .int .u64 0, .int .u64 0, .int .u64 0, .list []] }]
def a40_r1 : List AI := [
  { dst := some 6, op := .fa 1 0 },
  { dst := some 7, op := .ld none 6 },
  { dst := some 8, op := .bin .neq (.t 7) (.k (.int .i64 3)) },
  { dst := some 9, op := .mv (.t 8) },
  { dst := some 10, g := some (9, true), op := .fa 1 0 },
  { dst := some 11, g := some (9, true), op := .ld none 10 },
  { dst := some 12, g := some (9, true), op := .bin .neq (.t 11) (.k (.int .i64 4)) },
  { dst := some 13, op := .pick (.t 9) (.t 12) (.k (.bool false)) }]
def a40_r2 : List AI := [
  { dst := some 14, op := .ld (some 7) 1 },
  { dst := none, op := .st 7 2 (.t 14) }]
def a40_k1 : AC := (.cond (.t 13) (.seq (.reg a40_r2) .ret) .skip)
def a40_r3 : List AI := [
  { dst := some 15, op := .fa 1 6 },
  { dst := some 16, op := .ld none 15 },
  { dst := some 17, op := .len false (.t 16) },
  { dst := some 18, op := .mksH (.agg [.int .i64 0, .str [], .int .u64 0, .int .u64 0, .int .u64 0, .int .u64 0, .list []]) 80 (.t 17) },
  { dst := some 3, op := .mv (.t 18) }]
def a40_r4 : List AI := [
  { dst := some 19, op := .fa 1 6 },
  { dst := some 20, op := .ld none 19 },
  { dst := some 21, op := .len false (.t 20) },
  { dst := some 22, op := .mv (.k (.int .i64 0)) }]
def a40_r5 : List AI := [
  { dst := some 23, op := .bin .lss (.t 22) (.t 21) }]
def a40_r6 : List AI := [
  { dst := some 24, op := .mv (.t 22) },
  { dst := some 25, op := .ias 7 (.t 20) (.t 22) },
  { dst := some 26, op := .ld (some 7) 25 },
  { dst := some 5, op := .alloc [.int .i64 0, .str [], .int .u64 0, .int .u64 0, .int .u64 0, .int .u64 0, .list []] },
  { dst := some 4, op := .mv (.t 24) },
  { dst := none, op := .st 7 5 (.t 26) }]
def a40_r7 : List AI := [
  { dst := some 27, op := .mv (.t 3) },
  { dst := some 28, op := .mv (.t 4) },
  { dst := some 29, op := .ld (some 7) 5 },
  { dst := some 30, op := .call 40 [(.t 29)] },
  { dst := some 31, op := .ias 7 (.t 27) (.t 28) },
  { dst := none, op := .st 7 31 (.t 30) }]
def a40_r8 : List AI := [
  { dst := some 32, op := .bin .add (.t 22) (.k (.int .i64 1)) },
  { dst := some 22, op := .mv (.t 32) }]
def a40_k2 : AC := (.seq (.block 1 (.seq (.reg a40_r6) (.reg a40_r7))) (.reg a40_r8))
def a40_k3 : AC := (.seq (.cond (.t 23) .skip (.exit 0)) a40_k2)
def a40_L1 : AC := (.seq (.reg a40_r5) a40_k3)
def a40_k4 : AC := (.block 0 (.loop a40_L1))
def a40_r9 : List AI := [
  { dst := some 33, op := .fa 1 0 },
  { dst := some 34, op := .ld none 33 },
  { dst := some 35, op := .bin .eql (.t 34) (.k (.int .i64 3)) }]
def a40_r10 : List AI := [
  { dst := some 37, op := .mv (.t 3) },
  { dst := some 38, op := .ias 7 (.t 37) (.k (.int .i64 0)) },
  { dst := some 39, op := .fa 38 0 },
  { dst := some 40, op := .ld none 39 },
  { dst := some 41, op := .bin .eql (.t 40) (.k (.int .i64 0)) },
  { dst := some 42, op := .mv (.t 41) },
  { dst := some 43, g := some (42, false), op := .mv (.t 3) },
  { dst := some 44, g := some (42, false), op := .ias 7 (.t 43) (.k (.int .i64 1)) },
  { dst := some 45, g := some (42, false), op := .fa 44 0 },
  { dst := some 46, g := some (42, false), op := .ld none 45 },
  { dst := some 47, g := some (42, false), op := .bin .eql (.t 46) (.k (.int .i64 0)) },
  { dst := some 48, op := .pick (.t 42) (.k (.bool true)) (.t 47) },
  { dst := some 36, op := .mv (.t 48) }]
def a40_r11 : List AI := [
  { dst := some 49, op := .build [.int .i64 0, .str [], .int .u64 0, .int .u64 0, .int .u64 0, .int .u64 0, .list []] [] },
  { dst := none, op := .st 7 2 (.t 49) }]
def a40_r12 : List AI := [
  { dst := some 51, op := .mv (.t 3) },
  { dst := some 52, op := .ias 7 (.t 51) (.k (.int .i64 0)) },
  { dst := some 53, op := .fa 52 0 },
  { dst := some 54, op := .ld none 53 },
  { dst := some 55, op := .bin .eql (.t 54) (.k (.int .i64 1)) },
  { dst := some 50, op := .mv (.t 55) }]
def a40_r13 : List AI := [
  { dst := some 56, op := .fa 1 1 },
  { dst := some 57, op := .ldv none 56 1 1 },
  { dst := some 58, op := .mv (.t 3) },
  { dst := some 59, op := .ias 7 (.t 58) (.k (.int .i64 0)) },
  { dst := some 60, op := .fa 59 1 },
  { dst := some 61, op := .ldi none 60 },
  { dst := some 62, op := .bin .add (.t 57) (.t 61) },
  { dst := some 63, op := .mv (.t 3) },
  { dst := some 64, op := .ias 7 (.t 63) (.k (.int .i64 1)) },
  { dst := some 65, op := .ldi (some 7) 64 },
  { dst := some 66, op := .callQ 34 [(.t 62), (.t 65)] },
  { dst := none, op := .stv 7 2 2 0 (.t 66) }]
def a40_k5 : AC := (.cond (.t 50) (.seq (.reg a40_r13) .ret) .skip)
def a40_k6 : AC := (.cond (.t 36) (.seq (.reg a40_r11) .ret) (.seq (.reg a40_r12) a40_k5))
def a40_r14 : List AI := [
  { dst := some 67, op := .fa 1 1 },
  { dst := some 68, op := .ld none 67 },
  { dst := some 69, op := .mv (.t 3) },
  { dst := some 70, frz := [(69, 7)], op := .build [.int .i64 0, .str [], .int .u64 0, .int .u64 0, .int .u64 0, .int .u64 0, .list []] [(0, 1, (.k (.int .i64 3))), (1, 1, (.t 68)), (6, 1, (.t 69))] },
  { dst := none, op := .st 7 2 (.t 70) }]
def a40_k7 : AC := (.seq (.reg a40_r14) .ret)
def a40_k8 : AC := (.cond (.t 35) (.seq (.block 2 (.seq (.reg a40_r10) a40_k6)) a40_k7) .skip)
def a40_r15 : List AI := [
  { dst := some 71, op := .mv (.t 3) },
  { dst := some 72, frz := [(71, 7)], op := .call 10 [(.t 71)] },
  { dst := some 73, op := .call 12 [(.t 72)] },
  { dst := some 3, op := .mv (.t 73) }]
def a40_r16 : List AI := [
  { dst := some 74, op := .mv (.t 3) },
  { dst := some 75, op := .len false (.t 74) }]
def a40_r17 : List AI := [
  { dst := some 77, op := .bin .eql (.t 75) (.k (.int .i64 0)) },
  { dst := some 76, op := .mv (.t 77) }]
def a40_r18 : List AI := [
  { dst := some 78, op := .build [.int .i64 0, .str [], .int .u64 0, .int .u64 0, .int .u64 0, .int .u64 0, .list []] [] },
  { dst := none, op := .st 7 2 (.t 78) }]
def a40_r19 : List AI := [
  { dst := some 80, op := .bin .eql (.t 75) (.k (.int .i64 1)) },
  { dst := some 79, op := .mv (.t 80) }]
def a40_r20 : List AI := [
  { dst := some 81, op := .fa 1 1 },
  { dst := some 82, op := .ldv none 81 1 1 },
  { dst := some 83, op := .mv (.t 3) },
  { dst := some 84, op := .ias 7 (.t 83) (.k (.int .i64 0)) },
  { dst := some 85, op := .ldi (some 7) 84 },
  { dst := some 86, op := .callQ 34 [(.t 82), (.t 85)] },
  { dst := none, op := .stv 7 2 2 0 (.t 86) }]
def a40_k9 : AC := (.cond (.t 79) (.seq (.reg a40_r20) .ret) .skip)
def a40_k10 : AC := (.cond (.t 76) (.seq (.reg a40_r18) .ret) (.seq (.reg a40_r19) a40_k9))
def a40_k11 : AC := (.block 3 (.seq (.reg a40_r17) a40_k10))
def a40_r21 : List AI := [
  { dst := some 87, op := .fa 1 1 },
  { dst := some 88, op := .ld none 87 },
  { dst := some 89, op := .mv (.t 3) },
  { dst := some 90, op := .build [.int .i64 0, .str [], .int .u64 0, .int .u64 0, .int .u64 0, .int .u64 0, .list []] [(0, 1, (.k (.int .i64 4))), (1, 1, (.t 88)), (6, 1, (.t 89))] },
  { dst := none, op := .st 7 2 (.t 90) }]
def a40_k12 : AC := (.seq (.reg a40_r21) .ret)
def a40_k13 : AC := (.seq (.seq (.reg a40_r16) a40_k11) a40_k12)
def a40_k14 : AC := (.seq (.reg a40_r15) a40_k13)
def a40_k15 : AC := (.seq (.seq (.reg a40_r9) a40_k8) a40_k14)
def a40_k16 : AC := (.seq (.seq (.reg a40_r4) a40_k4) a40_k15)
def a40_k17 : AC := (.seq (.reg a40_r3) a40_k16)
def a40_k18 : AC := (.seq (.seq (.reg a40_r1) a40_k1) a40_k17)
def a40_B : AC := (.seq (.reg a40_r0) a40_k18)
/-- catchpole/simp.of -/
def a40 : AF := { N := 91, V := [1, 2, 5], body := a40_B, res := [.c (some 7) 2] }
theorem c40 : chkF P a40 Go.Proofs.Tryd.f40 = true := by kernel_rfl
mutual
/-- catchpole/simp.of -/
def simp_of (k : Nat) (x0 : T_coded_Coded) : Option T_coded_Coded := match k with
  | 0 => none
  | k + 1 =>
    if ((x0.Kind != 3) && (x0.Kind != 4)) = true then (some x0)
    else need ((0 : Int) ≤ (x0.L.length : Int) ∧ (x0.L.length : Int) * ((80 : Nat) : Int) ≤ 140737488351232 ∧ (x0.L.length : Int) ≤ 140737488351232) <|
    simp_of_L1 k x0 (T_coded_Coded.mk 0 [] (Arr.rep 4 0) []) x0.L (x0.L.length : Int) 0 (List.replicate (x0.L.length : Int).toNat (T_coded_Coded.mk 0 [] (Arr.rep 4 0) [])) (((x0.L.length : Int) : Int).toNat)
def simp_of_L1 (k : Nat) (v1 : T_coded_Coded) (v2 : T_coded_Coded) (t20 : (List T_coded_Coded)) (t21 : Int) (t22 : Int) (o18 : (List T_coded_Coded)) (n18 : Nat) : Option T_coded_Coded := match k with
  | 0 => none
  | k + 1 =>
    if (decide (t22 < t21)) = true then ((at_ t20 t22).bind fun y25 =>
    (simp_of k y25).bind fun y30 =>
    (at_ o18 t22).bind fun y31 =>
    simp_of_L1 k v1 v2 t20 t21 (IntKind.i64.wrap (t22 + 1)) (o18.set (t22 : Int).toNat y30) (n18))
    else if (v1.Kind == 3) = true then ((at_ o18 0).bind fun y38 =>
    if (y38.Kind == 0) = true then (simp_of_J1 k v1 v2 true o18 (n18))
    else (at_ o18 1).bind fun y44 =>
    simp_of_J1 k v1 v2 (y44.Kind == 0) o18 (n18))
    else (simp_Flat k o18).bind fun y72 =>
    (simp_Once k y72).bind fun y73 =>
    if ((y73.length : Int) == 0) = true then (some (T_coded_Coded.mk 0 [] (Arr.rep 4 0) []))
    else if ((y73.length : Int) == 1) = true then ((at_ y73 0).bind fun y84 =>
    (simp_fuse k v1.Bits y84).bind fun y86 =>
    some y86)
    else some (T_coded_Coded.mk 4 v1.Bits (Arr.rep 4 0) y73)
def simp_of_J1 (k : Nat) (v1 : T_coded_Coded) (v2 : T_coded_Coded) (t48 : Bool) (o18 : (List T_coded_Coded)) (n18 : Nat) : Option T_coded_Coded := match k with
  | 0 => none
  | k + 1 =>
    if t48 = true then (some (T_coded_Coded.mk 0 [] (Arr.rep 4 0) []))
    else (at_ o18 0).bind fun y52 =>
    if (y52.Kind == 1) = true then ((at_ o18 0).bind fun y59 =>
    need (v1.Bits.length + y59.Bits.length ≤ 140737488351232) <|
    (at_ o18 1).bind fun y64 =>
    (simp_fuse k (v1.Bits ++ y59.Bits) y64).bind fun y66 =>
    some y66)
    else some (T_coded_Coded.mk 3 v1.Bits (Arr.rep 4 0) o18)
end
def a40_q1 (R : Ex → St → Prop) : Ex → St → Prop := Ex.then (wpc (Ev P) a40_k17 R) R
def a40_q2 (R : Ex → St → Prop) : Ex → St → Prop := Ex.then (wpc (Ev P) a40_k1 (a40_q1 R)) (a40_q1 R)
def a40_q3 (R : Ex → St → Prop) : Ex → St → Prop := Ex.then (wpc (Ev P) a40_k15 R) R
def a40_q4 (R : Ex → St → Prop) : Ex → St → Prop := Ex.inBlock 0 (a40_q3 R)
def a40_q5 (R : Ex → St → Prop) : Ex → St → Prop := Ex.then (wpc (Ev P) a40_k14 R) R
def a40_q6 (R : Ex → St → Prop) : Ex → St → Prop := Ex.then (wpc (Ev P) a40_k7 (a40_q5 R)) (a40_q5 R)
def a40_q7 (R : Ex → St → Prop) : Ex → St → Prop := Ex.inBlock 2 (a40_q6 R)
def a40_q8 (R : Ex → St → Prop) : Ex → St → Prop := Ex.then (wpc (Ev P) a40_k6 (a40_q7 R)) (a40_q7 R)
def S_simp_of (k : Nat) : Prop := ∀ (x0 : T_coded_Coded) (r : T_coded_Coded), simp_of k x0 = some r → ∀ H, Ev P 40 [(.agg (T_coded_Coded.cells lw x0))] H (.agg (T_coded_Coded.cells lw r)) H
def S_simp_of_L1 (k : Nat) : Prop := ∀ (v1 : T_coded_Coded) (v2 : T_coded_Coded) (t20 : (List T_coded_Coded)) (t21 : Int) (t22 : Int) (b18 : Nat) (o18 : (List T_coded_Coded)) (n18 : Nat) (r : T_coded_Coded) (ρ : Nat → Slot) (H : List (Option (List D))) (hb18 : objH H b18 = some (flat T_coded_Coded.enc o18)) (hl18 : o18.length = n18), simp_of_L1 k v1 v2 t20 t21 t22 o18 n18 = some r → wpc (Ev P) (.loop a40_L1) (a40_q4 (retN a40.res (.agg (T_coded_Coded.cells lw r)))) ⟨upds ρ [(1, .var (T_coded_Coded.cells lw v1)), (2, .var (T_coded_Coded.cells lw v2)), (3, .d (.ref b18 0 n18 7)), (20, .d (.list (t20.map T_coded_Coded.enc))), (21, .d (.int .i64 t21)), (22, .d (.int .i64 t22))], H⟩
def S_simp_of_J1 (k : Nat) : Prop := ∀ (v1 : T_coded_Coded) (v2 : T_coded_Coded) (t48 : Bool) (b18 : Nat) (o18 : (List T_coded_Coded)) (n18 : Nat) (r : T_coded_Coded) (ρ : Nat → Slot) (H : List (Option (List D))) (hb18 : objH H b18 = some (flat T_coded_Coded.enc o18)) (hl18 : o18.length = n18), simp_of_J1 k v1 v2 t48 o18 n18 = some r → wpo (Ev P) (a40_r10.drop 12) ((a40_q8 (retN a40.res (.agg (T_coded_Coded.cells lw r)))) .normal) ⟨upds ρ [(1, .var (T_coded_Coded.cells lw v1)), (2, .var (T_coded_Coded.cells lw v2)), (3, .d (.ref b18 0 n18 7)), (48, .d (.bool t48))], H⟩
structure C_simp_of (k : Nat) : Prop where
  simp_of : S_simp_of k
  simp_of_L1 : S_simp_of_L1 k
  simp_of_J1 : S_simp_of_J1 k
theorem t_simp_of (k : Nat) (ih : C_simp_of k) : S_simp_of (k + 1) := by
  intro x0 r h H0
  rw [simp_of] at h
  refine evc_intro a40 Go.Proofs.Tryd.func40 c40 (Nat.le_of_ble_eq_true rfl) (cl_cons (T_coded_Coded.closed _) cl_nil) (T_coded_Coded.closed _) ?_ H0
  generalize ([] : List (Option (List D))) = H
  show wpc (Ev P) a40_B (retN a40.res (.agg (T_coded_Coded.cells lw r))) _
  refine c_seq ?_
  refine c_reg ?_
  refine o_box (vt rfl (copy_of_agg _)) (T_coded_Coded.one wr_l _) (T_coded_Coded.copy wr_l _) ?_
  refine o_alloc (cs := T_coded_Coded.cells lw (T_coded_Coded.mk 0 [] (Arr.rep 4 0) [])) rfl ?_
  refine o_nil ?_
  refine k_then ?_
  refine c_seq ?_
  refine c_seq ?_
  refine c_reg ?_
  refine o_fa (lv_v rfl) ?_
  refine o_ld1 (lv_l rfl) rfl (T_coded_Coded.cut_Kind lw _) (copy_of_int _ _) ?_
  refine o_bin (vt rfl (copy_of_int _ _)) (vk (copy_of_int _ _)) bin_neq ?_
  refine o_mvt rfl (copy_of_bool _) ?_
  have key1 : ∀ ρ : Nat → Slot, wpo (Ev P) (a40_r1.drop 8) ((a40_q2 (retN a40.res (.agg (T_coded_Coded.cells lw r)))) .normal) ⟨upds ρ [(1, .var (T_coded_Coded.cells lw x0)), (2, .var (T_coded_Coded.cells lw (T_coded_Coded.mk 0 [] (Arr.rep 4 0) []))), (13, .d (.bool ((x0.Kind != 3) && (x0.Kind != 4))))], H⟩ := by
    intro ρ
    refine o_nil ?_
    refine k_then ?_
    by_cases c3 : ((x0.Kind != 3) && (x0.Kind != 4)) = true
    · have h := it_t h c3
      refine c_cond_t (vt rfl (copy_of_bool _)) c3 ?_
      refine c_seq ?_
      refine c_reg ?_
      refine o_ld (lv_v rfl) rfl (cut_all (T_coded_Coded.len _ _)) (T_coded_Coded.copy wr_l _) ?_
      refine o_st rfl (lv_v rfl) (gt_ rfl (copy_of_agg _)) (cells_of_agg _) (T_coded_Coded.len _ _) (T_coded_Coded.one wr_l _) rfl (splice_all (n := 7) (T_coded_Coded.len _ _) (T_coded_Coded.len _ _)) ?_
      refine o_nil ?_
      refine k_then ?_
      refine c_ret ?_
      refine k_then_ret ?_
      obtain rfl := Option.some.inj h
      exact r_one rfl (res_c rfl (cut_all (T_coded_Coded.len _ _)) (T_coded_Coded.copy wr_l _)) (.inl rfl)
    · have c3 := bf c3
      have h := it_f h c3
      refine c_cond_f (vt rfl (copy_of_bool _)) c3 ?_
      refine c_skip ?_
      refine k_then ?_
      refine c_seq ?_
      refine c_reg ?_
      refine o_fa (lv_v rfl) ?_
      refine o_ld1 (lv_l rfl) rfl (T_coded_Coded.cut_L lw _) (Wr.copy wr_l _ _) ?_
      refine o_len_l (vt rfl (copy_of_list _)) (fun _ => ?_)
      obtain ⟨c4, h⟩ := need_some h
      refine o_mksh T_coded_Coded.ef (x := (T_coded_Coded.mk 0 [] (Arr.rep 4 0) [])) (vt rfl (copy_of_int _ _)) (by rw [T_coded_Coded.enc_eq]; rfl) c4 (fun b18 H hb18 keep => ?_)
      clear keep
      have hl18 : (List.replicate ((x0.L.length : Int) : Int).toNat (T_coded_Coded.mk 0 [] (Arr.rep 4 0) [])).length = ((x0.L.length : Int) : Int).toNat := List.length_replicate
      refine o_mvt rfl (copy_of_ref _ _ _ _) ?_
      refine o_nil ?_
      refine k_then ?_
      refine c_seq ?_
      refine c_seq ?_
      refine c_reg ?_
      refine o_fa (lv_v rfl) ?_
      refine o_ld1 (lv_l rfl) rfl (T_coded_Coded.cut_L lw _) (Wr.copy wr_l _ _) ?_
      refine o_len_l (vt rfl (copy_of_list _)) (fun _ => ?_)
      refine o_mvk ?_
      refine o_nil ?_
      refine k_then ?_
      refine c_block ?_
      exact wpc_head (ih.simp_of_L1 _ _ _ _ _ _ _ _ _ _ _ hb18 hl18 h) ⟨rfl, rfl, rfl, rfl, rfl, rfl, trivial⟩
  by_cases c2 : (x0.Kind != 3) = true
  · clear h
    refine o_g_t rfl c2 ?_
    refine o_fa (lv_v rfl) ?_
    refine o_g_t rfl c2 ?_
    refine o_ld1 (lv_l rfl) rfl (T_coded_Coded.cut_Kind lw _) (copy_of_int _ _) ?_
    refine o_g_t rfl c2 ?_
    refine o_bin (vt rfl (copy_of_int _ _)) (vk (copy_of_int _ _)) bin_neq ?_
    refine o_pick_t (vt rfl (copy_of_bool _)) c2 (vt rfl (copy_of_bool _)) ?_
    exact wpo_head (key1 _) ⟨rfl, rfl, (by simp only [c2]; rfl), trivial⟩
  · clear h
    have c2 := bf c2
    refine o_g_f rfl (ne_f c2) ?_
    refine o_g_f rfl (ne_f c2) ?_
    refine o_g_f rfl (ne_f c2) ?_
    refine o_pick_f (vt rfl (copy_of_bool _)) c2 (vk (copy_of_bool _)) ?_
    exact wpo_head (key1 _) ⟨rfl, rfl, (by simp only [c2]; rfl), trivial⟩
theorem t_simp_of_L1 (k : Nat) (ih : C_simp_of k) : S_simp_of_L1 (k + 1) := by
  intro v1 v2 t20 t21 t22 b18 o18 n18 r ρ H hb18 hl18 h
  rw [simp_of_L1] at h
  refine wpc_loop_i ?_
  refine c_seq ?_
  refine c_reg ?_
  refine o_bin (vt rfl (copy_of_int _ _)) (vt rfl (copy_of_int _ _)) bin_lss ?_
  refine o_nil ?_
  refine k_then ?_
  refine c_seq ?_
  by_cases c1 : (decide (t22 < t21)) = true
  · have h := it_t h c1
    refine c_cond_t (vt rfl (copy_of_bool _)) c1 ?_
    refine c_skip ?_
    refine k_then ?_
    refine c_seq ?_
    refine c_block ?_
    refine c_seq ?_
    refine c_reg ?_
    refine o_mvt rfl (copy_of_int _ _) ?_
    obtain ⟨y25, hy25, h⟩ := bind_some h
    refine o_ias (vt rfl (copy_of_list _)) (vt rfl (copy_of_int _ _)) hy25 (T_coded_Coded.enc_cells _) (T_coded_Coded.len lw _) ?_
    refine o_ldi rfl (cut_all (T_coded_Coded.len _ _)) (T_coded_Coded.copy wr_l _) ?_
    refine o_alloc (cs := T_coded_Coded.cells lw (T_coded_Coded.mk 0 [] (Arr.rep 4 0) [])) rfl ?_
    refine o_mvt rfl (copy_of_int _ _) ?_
    refine o_st rfl (lv_v rfl) (gt_ rfl (copy_of_agg _)) (cells_of_agg _) (T_coded_Coded.len _ _) (T_coded_Coded.one wr_l _) rfl (splice_all (n := 7) (T_coded_Coded.len _ _) (T_coded_Coded.len _ _)) ?_
    refine o_nil ?_
    refine k_then ?_
    refine c_reg ?_
    refine o_mvt rfl (copy_of_ref _ _ _ _) ?_
    refine o_mvt rfl (copy_of_int _ _) ?_
    refine o_ld (lv_v rfl) rfl (cut_all (T_coded_Coded.len _ _)) (T_coded_Coded.copy wr_l _) ?_
    obtain ⟨y30, hy30, h⟩ := bind_some h
    refine o_call rfl (g_cons (gt_ rfl (copy_of_agg _)) g_nil) (ih.simp_of _ _ hy30 _) ?_
    obtain ⟨y31, hy31, h⟩ := bind_some h
    refine o_iasr (vt rfl (copy_of_ref _ _ _ _)) (vt rfl (copy_of_int _ _)) (at_lt hy31 hl18) ?_
    refine o_sto' rfl rfl (gt_ rfl (copy_of_agg _)) (cells_of_agg _) (T_coded_Coded.len _ _) (T_coded_Coded.one wr_l _) hb18 (splice_flat0 (v := y30) T_coded_Coded.ef hy31 (T_coded_Coded.enc_cells _) (T_coded_Coded.enc_cells _) (splice_all (n := 7) (T_coded_Coded.len _ _) (T_coded_Coded.len _ _))) (fun H hb18 keep => ?_)
    clear keep
    have hl18 : (o18.set (t22 : Int).toNat y30).length = n18 := by rw [List.length_set]; exact hl18
    refine o_nil ?_
    refine k_block _ ?_
    refine k_then ?_
    refine c_reg ?_
    refine o_bin (vt rfl (copy_of_int _ _)) (vk (copy_of_int _ _)) bin_add ?_
    refine o_mvt rfl (copy_of_int _ _) ?_
    refine o_nil ?_
    refine k_then ?_
    exact wpc_head (ih.simp_of_L1 _ _ _ _ _ _ _ _ _ _ _ hb18 hl18 h) ⟨rfl, rfl, rfl, rfl, rfl, rfl, trivial⟩
  · have c1 := bf c1
    have h := it_f h c1
    refine c_cond_f (vt rfl (copy_of_bool _)) c1 ?_
    refine c_exit ?_
    refine k_then_exit ?_
    refine k_then_exit ?_
    refine k_block_exit _ ?_
    refine k_then ?_
    refine c_seq ?_
    refine c_seq ?_
    refine c_reg ?_
    refine o_fa (lv_v rfl) ?_
    refine o_ld1 (lv_l rfl) rfl (T_coded_Coded.cut_Kind lw _) (copy_of_int _ _) ?_
    refine o_bin (vt rfl (copy_of_int _ _)) (vk (copy_of_int _ _)) bin_eql ?_
    refine o_nil ?_
    refine k_then ?_
    by_cases c2 : (v1.Kind == 3) = true
    · have h := it_t h c2
      refine c_cond_t (vt rfl (copy_of_bool _)) c2 ?_
      refine c_seq ?_
      refine c_block ?_
      refine c_seq ?_
      refine c_reg ?_
      refine o_mvt rfl (copy_of_ref _ _ _ _) ?_
      obtain ⟨y38, hy38, h⟩ := bind_some h
      refine o_iasr (vt rfl (copy_of_ref _ _ _ _)) (vk (copy_of_int _ _)) (at_lt hy38 hl18) ?_
      refine o_fao rfl ?_
      refine o_ldo1 rfl hb18 (cut_flat T_coded_Coded.ef hy38 (T_coded_Coded.enc_cells _) (T_coded_Coded.cut_Kind lw _)) (copy_of_int _ _) ?_
      refine o_bin (vt rfl (copy_of_int _ _)) (vk (copy_of_int _ _)) bin_eql ?_
      refine o_mvt rfl (copy_of_bool _) ?_
      by_cases c3 : (y38.Kind == 0) = true
      · have h := it_t h c3
        refine o_g_f rfl (ne_t c3) ?_
        refine o_g_f rfl (ne_t c3) ?_
        refine o_g_f rfl (ne_t c3) ?_
        refine o_g_f rfl (ne_t c3) ?_
        refine o_g_f rfl (ne_t c3) ?_
        refine o_pick_t (vt rfl (copy_of_bool _)) c3 (vk (copy_of_bool _)) ?_
        exact wpo_head (ih.simp_of_J1 _ _ _ _ _ _ _ _ _ hb18 hl18 h) ⟨rfl, rfl, rfl, rfl, trivial⟩
      · have c3 := bf c3
        have h := it_f h c3
        refine o_g_t rfl c3 ?_
        refine o_mvt rfl (copy_of_ref _ _ _ _) ?_
        refine o_g_t rfl c3 ?_
        obtain ⟨y44, hy44, h⟩ := bind_some h
        refine o_iasr (vt rfl (copy_of_ref _ _ _ _)) (vk (copy_of_int _ _)) (at_lt hy44 hl18) ?_
        refine o_g_t rfl c3 ?_
        refine o_fao rfl ?_
        refine o_g_t rfl c3 ?_
        refine o_ldo1 rfl hb18 (cut_flat T_coded_Coded.ef hy44 (T_coded_Coded.enc_cells _) (T_coded_Coded.cut_Kind lw _)) (copy_of_int _ _) ?_
        refine o_g_t rfl c3 ?_
        refine o_bin (vt rfl (copy_of_int _ _)) (vk (copy_of_int _ _)) bin_eql ?_
        refine o_pick_f (vt rfl (copy_of_bool _)) c3 (vt rfl (copy_of_bool _)) ?_
        exact wpo_head (ih.simp_of_J1 _ _ _ _ _ _ _ _ _ hb18 hl18 h) ⟨rfl, rfl, rfl, rfl, trivial⟩
    · have c2 := bf c2
      have h := it_f h c2
      refine c_cond_f (vt rfl (copy_of_bool _)) c2 ?_
      refine c_skip ?_
      refine k_then ?_
      refine c_seq ?_
      refine c_reg ?_
      refine o_mvt rfl (copy_of_ref _ _ _ _) ?_
      refine o_frz1 T_coded_Coded.ef rfl hb18 hl18 (fun H keep => ?_)
      clear keep
      obtain ⟨y72, hy72, h⟩ := bind_some h
      refine o_call rfl (g_cons (gt_ rfl (copy_of_list _)) g_nil) (s_simp_Flat k _ _ hy72 _) ?_
      obtain ⟨y73, hy73, h⟩ := bind_some h
      refine o_call rfl (g_cons (gt_ rfl (copy_of_list _)) g_nil) (s_simp_Once k _ _ hy73 _) ?_
      refine o_mvt rfl (copy_of_list _) ?_
      refine o_nil ?_
      refine k_then ?_
      refine c_seq ?_
      refine c_seq ?_
      refine c_reg ?_
      refine o_mvt rfl (copy_of_list _) ?_
      refine o_len_l (vt rfl (copy_of_list _)) (fun _ => ?_)
      refine o_nil ?_
      refine k_then ?_
      refine c_block ?_
      refine c_seq ?_
      refine c_reg ?_
      refine o_bin (vt rfl (copy_of_int _ _)) (vk (copy_of_int _ _)) bin_eql ?_
      refine o_mvt rfl (copy_of_bool _) ?_
      refine o_nil ?_
      refine k_then ?_
      by_cases c4 : ((y73.length : Int) == 0) = true
      · have h := it_t h c4
        refine c_cond_t (vt rfl (copy_of_bool _)) c4 ?_
        refine c_seq ?_
        refine c_reg ?_
        refine o_build (fill_z (z' := T_coded_Coded.cells lw (T_coded_Coded.mk 0 [] (Arr.rep 4 0) [])) rfl fill_nil) ?_
        refine o_st rfl (lv_v rfl) (gt_ rfl (copy_of_agg _)) (cells_of_agg _) (T_coded_Coded.len _ _) (T_coded_Coded.one wr_l _) rfl (splice_all (n := 7) (T_coded_Coded.len _ _) (T_coded_Coded.len _ _)) ?_
        refine o_nil ?_
        refine k_then ?_
        refine c_ret ?_
        refine k_block_ret ?_
        refine k_then_ret ?_
        obtain rfl := Option.some.inj h
        exact r_one rfl (res_c rfl (cut_all (T_coded_Coded.len _ _)) (T_coded_Coded.copy wr_l _)) (.inl rfl)
      · have c4 := bf c4
        have h := it_f h c4
        refine c_cond_f (vt rfl (copy_of_bool _)) c4 ?_
        refine c_seq ?_
        refine c_reg ?_
        refine o_bin (vt rfl (copy_of_int _ _)) (vk (copy_of_int _ _)) bin_eql ?_
        refine o_mvt rfl (copy_of_bool _) ?_
        refine o_nil ?_
        refine k_then ?_
        by_cases c5 : ((y73.length : Int) == 1) = true
        · have h := it_t h c5
          refine c_cond_t (vt rfl (copy_of_bool _)) c5 ?_
          refine c_seq ?_
          refine c_reg ?_
          refine o_fa (lv_v rfl) ?_
          refine o_ldv1 (lv_l rfl) rfl (T_coded_Coded.cut_Bits lw _) (copy_of_str _) ?_
          refine o_mvt rfl (copy_of_list _) ?_
          obtain ⟨y84, hy84, h⟩ := bind_some h
          refine o_ias (vt rfl (copy_of_list _)) (vk (copy_of_int _ _)) hy84 (T_coded_Coded.enc_cells _) (T_coded_Coded.len lw _) ?_
          refine o_ldI rfl (cut_all (T_coded_Coded.len _ _)) (T_coded_Coded.copy wr_l _) ?_
          obtain ⟨y86, hy86, h⟩ := bind_some h
          refine o_callq (g_cons (gt_ rfl (copy_of_str _)) (g_cons (gt_ rfl (copy_of_agg _)) g_nil)) (s_simp_fuse k _ _ _ hy86 _) ?_
          refine o_stv (lv_v rfl) (gt_ rfl (copy_of_agg _)) (cells_of_agg _) (T_coded_Coded.len _ _) (T_coded_Coded.one wr_l _) rfl (splice_all (n := 7) (T_coded_Coded.len _ _) (T_coded_Coded.len _ _)) ?_
          refine o_nil ?_
          refine k_then ?_
          refine c_ret ?_
          refine k_block_ret ?_
          refine k_then_ret ?_
          obtain rfl := Option.some.inj h
          exact r_one rfl (res_c rfl (cut_all (T_coded_Coded.len _ _)) (T_coded_Coded.copy wr_l _)) (.inl rfl)
        · have c5 := bf c5
          have h := it_f h c5
          refine c_cond_f (vt rfl (copy_of_bool _)) c5 ?_
          refine c_skip ?_
          refine k_block _ ?_
          refine k_then ?_
          refine c_seq ?_
          refine c_reg ?_
          refine o_fa (lv_v rfl) ?_
          refine o_ld1 (lv_l rfl) rfl (T_coded_Coded.cut_Bits lw _) (copy_of_str _) ?_
          refine o_mvt rfl (copy_of_list _) ?_
          refine o_build (fill_z (z' := T_coded_Coded.cells lw (T_coded_Coded.mk 0 [] (Arr.rep 4 0) [])) rfl (fill_cons (vk (copy_of_int _ _)) rfl rfl cc_int (T_coded_Coded.spl_Kind _ 4) (fill_cons (vt rfl (copy_of_str _)) rfl rfl cc_str (T_coded_Coded.spl_Bits _ v1.Bits) (fill_cons (vt rfl (copy_of_list _)) rfl rfl cc_list (T_coded_Coded.spl_L (w' := lw) _ y73) fill_nil)))) ?_
          refine o_st rfl (lv_v rfl) (gt_ rfl (copy_of_agg _)) (cells_of_agg _) (T_coded_Coded.len _ _) (T_coded_Coded.one wr_l _) rfl (splice_all (n := 7) (T_coded_Coded.len _ _) (T_coded_Coded.len _ _)) ?_
          refine o_nil ?_
          refine k_then ?_
          refine c_ret ?_
          obtain rfl := Option.some.inj h
          exact r_one rfl (res_c rfl (cut_all (T_coded_Coded.len _ _)) (T_coded_Coded.copy wr_l _)) (.inl rfl)
theorem t_simp_of_J1 (k : Nat) (ih : C_simp_of k) : S_simp_of_J1 (k + 1) := by
  intro v1 v2 t48 b18 o18 n18 r ρ H hb18 hl18 h
  rw [simp_of_J1] at h
  refine o_mvt rfl (copy_of_bool _) ?_
  refine o_nil ?_
  refine k_then ?_
  by_cases c1 : t48 = true
  · have h := it_t h c1
    refine c_cond_t (vt rfl (copy_of_bool _)) c1 ?_
    refine c_seq ?_
    refine c_reg ?_
    refine o_build (fill_z (z' := T_coded_Coded.cells lw (T_coded_Coded.mk 0 [] (Arr.rep 4 0) [])) rfl fill_nil) ?_
    refine o_st rfl (lv_v rfl) (gt_ rfl (copy_of_agg _)) (cells_of_agg _) (T_coded_Coded.len _ _) (T_coded_Coded.one wr_l _) rfl (splice_all (n := 7) (T_coded_Coded.len _ _) (T_coded_Coded.len _ _)) ?_
    refine o_nil ?_
    refine k_then ?_
    refine c_ret ?_
    refine k_block_ret ?_
    refine k_then_ret ?_
    refine k_then_ret ?_
    obtain rfl := Option.some.inj h
    exact r_one rfl (res_c rfl (cut_all (T_coded_Coded.len _ _)) (T_coded_Coded.copy wr_l _)) (.inl rfl)
  · have c1 := bf c1
    have h := it_f h c1
    refine c_cond_f (vt rfl (copy_of_bool _)) c1 ?_
    refine c_seq ?_
    refine c_reg ?_
    refine o_mvt rfl (copy_of_ref _ _ _ _) ?_
    obtain ⟨y52, hy52, h⟩ := bind_some h
    refine o_iasr (vt rfl (copy_of_ref _ _ _ _)) (vk (copy_of_int _ _)) (at_lt hy52 hl18) ?_
    refine o_fao rfl ?_
    refine o_ldo1 rfl hb18 (cut_flat T_coded_Coded.ef hy52 (T_coded_Coded.enc_cells _) (T_coded_Coded.cut_Kind lw _)) (copy_of_int _ _) ?_
    refine o_bin (vt rfl (copy_of_int _ _)) (vk (copy_of_int _ _)) bin_eql ?_
    refine o_mvt rfl (copy_of_bool _) ?_
    refine o_nil ?_
    refine k_then ?_
    by_cases c2 : (y52.Kind == 1) = true
    · have h := it_t h c2
      refine c_cond_t (vt rfl (copy_of_bool _)) c2 ?_
      refine c_seq ?_
      refine c_reg ?_
      refine o_fa (lv_v rfl) ?_
      refine o_ldv1 (lv_l rfl) rfl (T_coded_Coded.cut_Bits lw _) (copy_of_str _) ?_
      refine o_mvt rfl (copy_of_ref _ _ _ _) ?_
      obtain ⟨y59, hy59, h⟩ := bind_some h
      refine o_iasr (vt rfl (copy_of_ref _ _ _ _)) (vk (copy_of_int _ _)) (at_lt hy59 hl18) ?_
      refine o_fao rfl ?_
      refine o_ldO1 rfl hb18 (cut_flat T_coded_Coded.ef hy59 (T_coded_Coded.enc_cells _) (T_coded_Coded.cut_Bits lw _)) (copy_of_str _) ?_
      obtain ⟨c3, h⟩ := need_some h
      refine o_bin (vt rfl (copy_of_str _)) (vt rfl (copy_of_str _)) (bin_str c3) ?_
      refine o_mvt rfl (copy_of_ref _ _ _ _) ?_
      obtain ⟨y64, hy64, h⟩ := bind_some h
      refine o_iasr (vt rfl (copy_of_ref _ _ _ _)) (vk (copy_of_int _ _)) (at_lt hy64 hl18) ?_
      refine o_ldO rfl hb18 (cut_flat0 T_coded_Coded.ef hy64 (T_coded_Coded.enc_cells _) (cut_all (T_coded_Coded.len _ _))) (T_coded_Coded.copy wr_l _) ?_
      obtain ⟨y66, hy66, h⟩ := bind_some h
      refine o_callq (g_cons (gt_ rfl (copy_of_str _)) (g_cons (gt_ rfl (copy_of_agg _)) g_nil)) (s_simp_fuse k _ _ _ hy66 _) ?_
      refine o_stv (lv_v rfl) (gt_ rfl (copy_of_agg _)) (cells_of_agg _) (T_coded_Coded.len _ _) (T_coded_Coded.one wr_l _) rfl (splice_all (n := 7) (T_coded_Coded.len _ _) (T_coded_Coded.len _ _)) ?_
      refine o_nil ?_
      refine k_then ?_
      refine c_ret ?_
      refine k_block_ret ?_
      refine k_then_ret ?_
      refine k_then_ret ?_
      obtain rfl := Option.some.inj h
      exact r_one rfl (res_c rfl (cut_all (T_coded_Coded.len _ _)) (T_coded_Coded.copy wr_l _)) (.inl rfl)
    · have c2 := bf c2
      have h := it_f h c2
      refine c_cond_f (vt rfl (copy_of_bool _)) c2 ?_
      refine c_skip ?_
      refine k_block _ ?_
      refine k_then ?_
      refine c_seq ?_
      refine c_reg ?_
      refine o_fa (lv_v rfl) ?_
      refine o_ld1 (lv_l rfl) rfl (T_coded_Coded.cut_Bits lw _) (copy_of_str _) ?_
      refine o_mvt rfl (copy_of_ref _ _ _ _) ?_
      refine o_frz1 T_coded_Coded.ef rfl hb18 hl18 (fun H keep => ?_)
      clear keep
      refine o_build (fill_z (z' := T_coded_Coded.cells lw (T_coded_Coded.mk 0 [] (Arr.rep 4 0) [])) rfl (fill_cons (vk (copy_of_int _ _)) rfl rfl cc_int (T_coded_Coded.spl_Kind _ 3) (fill_cons (vt rfl (copy_of_str _)) rfl rfl cc_str (T_coded_Coded.spl_Bits _ v1.Bits) (fill_cons (vt rfl (copy_of_list _)) rfl rfl cc_list (T_coded_Coded.spl_L (w' := lw) _ o18) fill_nil)))) ?_
      refine o_st rfl (lv_v rfl) (gt_ rfl (copy_of_agg _)) (cells_of_agg _) (T_coded_Coded.len _ _) (T_coded_Coded.one wr_l _) rfl (splice_all (n := 7) (T_coded_Coded.len _ _) (T_coded_Coded.len _ _)) ?_
      refine o_nil ?_
      refine k_then ?_
      refine c_ret ?_
      refine k_then_ret ?_
      obtain rfl := Option.some.inj h
      exact r_one rfl (res_c rfl (cut_all (T_coded_Coded.len _ _)) (T_coded_Coded.copy wr_l _)) (.inl rfl)
theorem z_simp_of : S_simp_of 0 := by
  intro x0 r h H
  rw [simp_of] at h; cases h
theorem z_simp_of_L1 : S_simp_of_L1 0 := by
  intro v1 v2 t20 t21 t22 b18 o18 n18 r ρ H hb18 hl18 h
  rw [simp_of_L1] at h; cases h
theorem z_simp_of_J1 : S_simp_of_J1 0 := by
  intro v1 v2 t48 b18 o18 n18 r ρ H hb18 hl18 h
  rw [simp_of_J1] at h; cases h
theorem C_simp_of.all : ∀ k, C_simp_of k
  | 0 => ⟨z_simp_of, z_simp_of_L1, z_simp_of_J1⟩
  | k + 1 => ⟨t_simp_of k (C_simp_of.all k), t_simp_of_L1 k (C_simp_of.all k), t_simp_of_J1 k (C_simp_of.all k)⟩
theorem s_simp_of (k : Nat) : S_simp_of k := (C_simp_of.all k).simp_of
def a15_r0 : List AI := [
  { dst := some 1, op := .box (.t 0) },
  { dst := some 2, op := .alloc [.int .i64 0, .str [], .int .u64 0, .int .u64 0, .int .u64 0, .int .u64 0, .list []] }]
def a15_r1 : List AI := [
  { dst := some 3, op := .ld (some 7) 1 },
  { dst := some 4, op := .call 8 [(.t 3)] },
  { dst := some 5, op := .un .not (.t 4) }]
def a15_r2 : List AI := [
  { dst := some 6, op := .ld (some 7) 1 },
  { dst := none, op := .st 7 2 (.t 6) }]
def a15_k1 : AC := (.cond (.t 5) (.seq (.reg a15_r2) .ret) .skip)
def a15_r3 : List AI := [
  { dst := some 7, op := .ld (some 7) 1 },
  { dst := some 8, op := .call 40 [(.t 7)] },
  { dst := none, op := .st 7 2 (.t 8) }]
def a15_k2 : AC := (.seq (.reg a15_r3) .ret)
def a15_k3 : AC := (.seq (.seq (.reg a15_r1) a15_k1) a15_k2)
def a15_B : AC := (.seq (.reg a15_r0) a15_k3)
/-- catchpole/simp.Of -/
def a15 : AF := { N := 9, V := [1, 2], body := a15_B, res := [.c (some 7) 2] }
theorem c15 : chkF P a15 Go.Proofs.Tryd.f15 = true := by kernel_rfl
/-- catchpole/simp.Of -/
def simp_Of (k : Nat) (x0 : T_coded_Coded) : Option T_coded_Coded := match k with
  | 0 => none
  | k + 1 =>
    (coded_Good k x0).bind fun y4 =>
    if (!y4) = true then (some x0)
    else (simp_of k x0).bind fun y8 =>
    some y8
def S_simp_Of (k : Nat) : Prop := ∀ (x0 : T_coded_Coded) (r : T_coded_Coded), simp_Of k x0 = some r → ∀ H, Ev P 15 [(.agg (T_coded_Coded.cells lw x0))] H (.agg (T_coded_Coded.cells lw r)) H
structure C_simp_Of (k : Nat) : Prop where
  simp_Of : S_simp_Of k
theorem t_simp_Of (k : Nat) (ih : C_simp_Of k) : S_simp_Of (k + 1) := by
  intro x0 r h H0
  rw [simp_Of] at h
  refine evc_intro a15 Go.Proofs.Tryd.func15 c15 (Nat.le_of_ble_eq_true rfl) (cl_cons (T_coded_Coded.closed _) cl_nil) (T_coded_Coded.closed _) ?_ H0
  generalize ([] : List (Option (List D))) = H
  show wpc (Ev P) a15_B (retN a15.res (.agg (T_coded_Coded.cells lw r))) _
  refine c_seq ?_
  refine c_reg ?_
  refine o_box (vt rfl (copy_of_agg _)) (T_coded_Coded.one wr_l _) (T_coded_Coded.copy wr_l _) ?_
  refine o_alloc (cs := T_coded_Coded.cells lw (T_coded_Coded.mk 0 [] (Arr.rep 4 0) [])) rfl ?_
  refine o_nil ?_
  refine k_then ?_
  refine c_seq ?_
  refine c_seq ?_
  refine c_reg ?_
  refine o_ld (lv_v rfl) rfl (cut_all (T_coded_Coded.len _ _)) (T_coded_Coded.copy wr_l _) ?_
  obtain ⟨y4, hy4, h⟩ := bind_some h
  refine o_call rfl (g_cons (gt_ rfl (copy_of_agg _)) g_nil) (s_coded_Good k _ _ hy4 _) ?_
  refine o_un (vt rfl (copy_of_bool _)) un_not ?_
  refine o_nil ?_
  refine k_then ?_
  by_cases c1 : (!y4) = true
  · have h := it_t h c1
    refine c_cond_t (vt rfl (copy_of_bool _)) c1 ?_
    refine c_seq ?_
    refine c_reg ?_
    refine o_ld (lv_v rfl) rfl (cut_all (T_coded_Coded.len _ _)) (T_coded_Coded.copy wr_l _) ?_
    refine o_st rfl (lv_v rfl) (gt_ rfl (copy_of_agg _)) (cells_of_agg _) (T_coded_Coded.len _ _) (T_coded_Coded.one wr_l _) rfl (splice_all (n := 7) (T_coded_Coded.len _ _) (T_coded_Coded.len _ _)) ?_
    refine o_nil ?_
    refine k_then ?_
    refine c_ret ?_
    refine k_then_ret ?_
    obtain rfl := Option.some.inj h
    exact r_one rfl (res_c rfl (cut_all (T_coded_Coded.len _ _)) (T_coded_Coded.copy wr_l _)) (.inl rfl)
  · have c1 := bf c1
    have h := it_f h c1
    refine c_cond_f (vt rfl (copy_of_bool _)) c1 ?_
    refine c_skip ?_
    refine k_then ?_
    refine c_seq ?_
    refine c_reg ?_
    refine o_ld (lv_v rfl) rfl (cut_all (T_coded_Coded.len _ _)) (T_coded_Coded.copy wr_l _) ?_
    obtain ⟨y8, hy8, h⟩ := bind_some h
    refine o_call rfl (g_cons (gt_ rfl (copy_of_agg _)) g_nil) (s_simp_of k _ _ hy8 _) ?_
    refine o_st rfl (lv_v rfl) (gt_ rfl (copy_of_agg _)) (cells_of_agg _) (T_coded_Coded.len _ _) (T_coded_Coded.one wr_l _) rfl (splice_all (n := 7) (T_coded_Coded.len _ _) (T_coded_Coded.len _ _)) ?_
    refine o_nil ?_
    refine k_then ?_
    refine c_ret ?_
    obtain rfl := Option.some.inj h
    exact r_one rfl (res_c rfl (cut_all (T_coded_Coded.len _ _)) (T_coded_Coded.copy wr_l _)) (.inl rfl)
theorem z_simp_Of : S_simp_Of 0 := by
  intro x0 r h H
  rw [simp_Of] at h; cases h
theorem C_simp_Of.all : ∀ k, C_simp_Of k
  | 0 => ⟨z_simp_Of⟩
  | k + 1 => ⟨t_simp_Of k (C_simp_Of.all k)⟩
theorem s_simp_Of (k : Nat) : S_simp_Of k := (C_simp_Of.all k).simp_Of
def a31_r0 : List AI := [
  { dst := some 2, op := .alloc [.int .u64 0, .int .u64 0, .int .u64 0, .int .u64 0] }]
def a31_r1 : List AI := [
  { dst := some 3, op := .alloc [.int .u64 0, .int .u64 0, .int .u64 0, .int .u64 0] }]
def a31_r2 : List AI := [
  { dst := some 6, op := .mv (.t 0) },
  { dst := some 7, op := .len false (.t 6) },
  { dst := some 8, op := .mv (.k (.int .i64 0)) }]
def a31_r3 : List AI := [
  { dst := some 9, op := .bin .lss (.t 8) (.t 7) }]
def a31_r4 : List AI := [
  { dst := some 10, op := .ias 1 (.t 6) (.t 8) },
  { dst := some 11, op := .ld none 10 },
  { dst := some 5, op := .mv (.t 11) }]
def a31_r5 : List AI := [
  { dst := some 12, op := .mv (.t 5) },
  { dst := some 13, op := .bin .quo (.t 12) (.k (.int .u8 64)) },
  { dst := some 14, op := .iaa 4 1 3 (.t 13) },
  { dst := some 15, op := .ld none 14 },
  { dst := some 16, op := .mv (.t 5) },
  { dst := some 17, op := .bin .rem (.t 16) (.k (.int .u8 64)) },
  { dst := some 18, op := .bin .shl (.k (.int .u64 1)) (.t 17) },
  { dst := some 19, op := .bin .or (.t 15) (.t 18) },
  { dst := some 20, op := .iaa 4 1 3 (.t 13) },
  { dst := none, op := .st 1 20 (.t 19) }]
def a31_r6 : List AI := [
  { dst := some 21, op := .bin .add (.t 8) (.k (.int .i64 1)) },
  { dst := some 8, op := .mv (.t 21) }]
def a31_k1 : AC := (.seq (.block 1 (.seq (.reg a31_r4) (.reg a31_r5))) (.reg a31_r6))
def a31_k2 : AC := (.seq (.cond (.t 9) .skip (.exit 0)) a31_k1)
def a31_L1 : AC := (.seq (.reg a31_r3) a31_k2)
def a31_k3 : AC := (.block 0 (.loop a31_L1))
def a31_r7 : List AI := [
  { dst := some 22, op := .ld (some 4) 3 },
  { dst := none, op := .st 4 2 (.t 22) }]
def a31_k4 : AC := (.seq (.reg a31_r7) .ret)
def a31_k5 : AC := (.seq (.seq (.reg a31_r2) a31_k3) a31_k4)
def a31_k6 : AC := (.seq (.reg a31_r1) a31_k5)
def a31_B : AC := (.seq (.reg a31_r0) a31_k6)
/-- catchpole/byteset.Of -/
def a31 : AF := { N := 23, V := [2, 3], body := a31_B, res := [.c (some 4) 2] }
theorem c31 : chkF P a31 Go.Proofs.Tryd.f31 = true := by kernel_rfl
mutual
/-- catchpole/byteset.Of -/
def byteset_Of (k : Nat) (x0 : (List Int)) : Option (Arr Int 4) := match k with
  | 0 => none
  | k + 1 =>
    byteset_Of_L1 k (Arr.rep 4 0) (Arr.rep 4 0) x0 (x0.length : Int) 0
def byteset_Of_L1 (k : Nat) (v2 : (Arr Int 4)) (v3 : (Arr Int 4)) (t6 : (List Int)) (t7 : Int) (t8 : Int) : Option (Arr Int 4) := match k with
  | 0 => none
  | k + 1 =>
    if (decide (t8 < t7)) = true then ((at_ t6 t8).bind fun y10 =>
    need ((0 : Int) ≤ (IntKind.u8.wrap (y10.tdiv 64)) ∧ (IntKind.u8.wrap (y10.tdiv 64)) < ((4 : Nat) : Int)) <|
    need ((0 : Int) ≤ (y10.tmod 64)) <|
    need ((0 : Int) ≤ (IntKind.u8.wrap (y10.tdiv 64)) ∧ (IntKind.u8.wrap (y10.tdiv 64)) < ((4 : Nat) : Int)) <|
    byteset_Of_L1 k v2 (v3.set (IntKind.u8.wrap (y10.tdiv 64)) (orI .u64 (v3.gd (IntKind.u8.wrap (y10.tdiv 64)) 0) (shlI .u64 1 (y10.tmod 64)))) t6 t7 (IntKind.i64.wrap (t8 + 1)))
    else some v3
end
def a31_q1 (R : Ex → St → Prop) : Ex → St → Prop := Ex.then (wpc (Ev P) a31_k4 R) R
def a31_q2 (R : Ex → St → Prop) : Ex → St → Prop := Ex.inBlock 0 (a31_q1 R)
def S_byteset_Of (k : Nat) : Prop := ∀ (x0 : (List Int)) (r : (Arr Int 4)), byteset_Of k x0 = some r → ∀ H, Ev P 31 [(.list (x0.map (D.int .u8)))] H (.agg (r.l.map (D.int .u64))) H
def S_byteset_Of_L1 (k : Nat) : Prop := ∀ (v2 : (Arr Int 4)) (v3 : (Arr Int 4)) (t6 : (List Int)) (t7 : Int) (t8 : Int) (r : (Arr Int 4)) (ρ : Nat → Slot) (H : List (Option (List D))) , byteset_Of_L1 k v2 v3 t6 t7 t8 = some r → wpc (Ev P) (.loop a31_L1) (a31_q2 (retN a31.res (.agg (r.l.map (D.int .u64))))) ⟨upds ρ [(2, .var (v2.l.map (D.int .u64))), (3, .var (v3.l.map (D.int .u64))), (6, .d (.list (t6.map (D.int .u8)))), (7, .d (.int .i64 t7)), (8, .d (.int .i64 t8))], H⟩
structure C_byteset_Of (k : Nat) : Prop where
  byteset_Of : S_byteset_Of k
  byteset_Of_L1 : S_byteset_Of_L1 k
theorem t_byteset_Of (k : Nat) (ih : C_byteset_Of k) : S_byteset_Of (k + 1) := by
  intro x0 r h H0
  rw [byteset_Of] at h
  refine evc_intro a31 Go.Proofs.Tryd.func31 c31 (Nat.le_of_ble_eq_true rfl) (cl_cons rfl cl_nil) closed_ai ?_ H0
  generalize ([] : List (Option (List D))) = H
  show wpc (Ev P) a31_B (retN a31.res (.agg (r.l.map (D.int .u64)))) _
  refine c_seq ?_
  refine c_reg ?_
  refine o_alloc (cs := (Arr.rep 4 0).l.map (D.int .u64)) rfl ?_
  refine o_nil ?_
  refine k_then ?_
  refine c_seq ?_
  refine c_reg ?_
  refine o_alloc (cs := (Arr.rep 4 0).l.map (D.int .u64)) rfl ?_
  refine o_nil ?_
  refine k_then ?_
  refine c_seq ?_
  refine c_seq ?_
  refine c_reg ?_
  refine o_mvt rfl (copy_of_list _) ?_
  refine o_len_l (vt rfl (copy_of_list _)) (fun _ => ?_)
  refine o_mvk ?_
  refine o_nil ?_
  refine k_then ?_
  refine c_block ?_
  exact wpc_head (ih.byteset_Of_L1 _ _ _ _ _ _ _ _ h) ⟨rfl, rfl, rfl, rfl, rfl, trivial⟩
theorem t_byteset_Of_L1 (k : Nat) (ih : C_byteset_Of k) : S_byteset_Of_L1 (k + 1) := by
  intro v2 v3 t6 t7 t8 r ρ H h
  rw [byteset_Of_L1] at h
  refine wpc_loop_i ?_
  refine c_seq ?_
  refine c_reg ?_
  refine o_bin (vt rfl (copy_of_int _ _)) (vt rfl (copy_of_int _ _)) bin_lss ?_
  refine o_nil ?_
  refine k_then ?_
  refine c_seq ?_
  by_cases c1 : (decide (t8 < t7)) = true
  · have h := it_t h c1
    refine c_cond_t (vt rfl (copy_of_bool _)) c1 ?_
    refine c_skip ?_
    refine k_then ?_
    refine c_seq ?_
    refine c_block ?_
    refine c_seq ?_
    refine c_reg ?_
    obtain ⟨y10, hy10, h⟩ := bind_some h
    refine o_ias (vt rfl (copy_of_list _)) (vt rfl (copy_of_int _ _)) hy10 (cells_of_int _ _) rfl ?_
    refine o_ldi1 rfl rfl (copy_of_int _ _) ?_
    refine o_mvt rfl (copy_of_int _ _) ?_
    refine o_nil ?_
    refine k_then ?_
    refine c_reg ?_
    refine o_mvt rfl (copy_of_int _ _) ?_
    refine o_bin (vt rfl (copy_of_int _ _)) (vk (copy_of_int _ _)) (bin_quo (by decide)) ?_
    obtain ⟨c2, h⟩ := need_some h
    refine o_iaa (lv_v rfl) (vt rfl (copy_of_int _ _)) c2 ?_
    refine o_ld1 (lv_l rfl) rfl (cut_map' (arr_gd (z := 0) c2)) (copy_of_int _ _) ?_
    refine o_mvt rfl (copy_of_int _ _) ?_
    refine o_bin (vt rfl (copy_of_int _ _)) (vk (copy_of_int _ _)) (bin_rem (by decide)) ?_
    obtain ⟨c3, h⟩ := need_some h
    refine o_bin (vk (copy_of_int _ _)) (vt rfl (copy_of_int _ _)) (bin_shl' c3) ?_
    refine o_bin (vt rfl (copy_of_int _ _)) (vt rfl (copy_of_int _ _)) bin_or ?_
    obtain ⟨c4, h⟩ := need_some h
    refine o_iaa (lv_v rfl) (vt rfl (copy_of_int _ _)) c4 ?_
    refine o_st rfl (lv_l rfl) (gt_ rfl (copy_of_int _ _)) (cells_of_int _ _) rfl rfl rfl (splice_map' (Int.toNat_lt c4.1 |>.2 c4.2)) ?_
    refine o_nil ?_
    refine k_block _ ?_
    refine k_then ?_
    refine c_reg ?_
    refine o_bin (vt rfl (copy_of_int _ _)) (vk (copy_of_int _ _)) bin_add ?_
    refine o_mvt rfl (copy_of_int _ _) ?_
    refine o_nil ?_
    refine k_then ?_
    exact wpc_head (ih.byteset_Of_L1 _ _ _ _ _ _ _ _ h) ⟨rfl, rfl, rfl, rfl, rfl, trivial⟩
  · have c1 := bf c1
    have h := it_f h c1
    refine c_cond_f (vt rfl (copy_of_bool _)) c1 ?_
    refine c_exit ?_
    refine k_then_exit ?_
    refine k_then_exit ?_
    refine k_block_exit _ ?_
    refine k_then ?_
    refine c_seq ?_
    refine c_reg ?_
    refine o_ld (lv_v rfl) rfl (cut_all len_arr) cm_int ?_
    refine o_st rfl (lv_v rfl) (gt_ rfl (copy_of_agg _)) (cells_of_agg _) len_arr om_int rfl (splice_all (n := 4) len_arr len_arr) ?_
    refine o_nil ?_
    refine k_then ?_
    refine c_ret ?_
    obtain rfl := Option.some.inj h
    exact r_one rfl (res_c rfl (cut_all len_arr) cm_int) (.inl rfl)
theorem z_byteset_Of : S_byteset_Of 0 := by
  intro x0 r h H
  rw [byteset_Of] at h; cases h
theorem z_byteset_Of_L1 : S_byteset_Of_L1 0 := by
  intro v2 v3 t6 t7 t8 r ρ H h
  rw [byteset_Of_L1] at h; cases h
theorem C_byteset_Of.all : ∀ k, C_byteset_Of k
  | 0 => ⟨z_byteset_Of, z_byteset_Of_L1⟩
  | k + 1 => ⟨t_byteset_Of k (C_byteset_Of.all k), t_byteset_Of_L1 k (C_byteset_Of.all k)⟩
theorem s_byteset_Of (k : Nat) : S_byteset_Of k := (C_byteset_Of.all k).byteset_Of
def a6_r0 : List AI := [
  { dst := some 0, op := .mv (.k (.bool false)) }]
def a6_r1 : List AI := [
  { dst := some 3, op := .bsl 5 1 [(.k (.int .u8 97))] },
  { dst := some 4, op := .call 31 [(.t 3)] },
  { dst := some 5, op := .build [.int .i64 0, .str [], .int .u64 0, .int .u64 0, .int .u64 0, .int .u64 0, .list []] [(0, 1, (.k (.int .i64 2))), (2, 4, (.t 4))] },
  { dst := some 1, op := .alloc [.int .i64 0, .str [], .int .u64 0, .int .u64 0, .int .u64 0, .int .u64 0, .list []] },
  { dst := none, op := .st 7 1 (.t 5) }]
def a6_r2 : List AI := [
  { dst := some 6, op := .ld (some 7) 1 },
  { dst := some 7, op := .ld (some 7) 1 },
  { dst := some 8, op := .bsl 27 7 [(.t 6), (.t 7)] },
  { dst := some 9, op := .build [.int .i64 0, .str [], .int .u64 0, .int .u64 0, .int .u64 0, .int .u64 0, .list []] [(0, 1, (.k (.int .i64 4))), (6, 1, (.t 8))] },
  { dst := some 10, op := .call 15 [(.t 9)] },
  { dst := some 2, op := .alloc [.int .i64 0, .str [], .int .u64 0, .int .u64 0, .int .u64 0, .int .u64 0, .list []] },
  { dst := none, op := .st 7 2 (.t 10) }]
def a6_r3 : List AI := [
  { dst := some 11, op := .fa 2 0 },
  { dst := some 12, op := .ldv none 11 2 0 },
  { dst := some 13, op := .bin .eql (.t 12) (.k (.int .i64 2)) },
  { dst := some 14, op := .mv (.t 13) },
  { dst := some 15, g := some (14, true), op := .fa 2 2 },
  { dst := some 16, g := some (14, true), op := .ldv (some 4) 15 2 2 },
  { dst := some 17, g := some (14, true), op := .bsl 5 1 [(.k (.int .u8 97))] },
  { dst := some 18, g := some (14, true), op := .callQ 31 [(.t 17)] },
  { dst := some 19, g := some (14, true), op := .eqv false .int 4 (.t 16) (.t 18) },
  { dst := some 20, op := .pick (.t 14) (.t 19) (.k (.bool false)) },
  { dst := some 0, op := .mv (.t 20) }]
def a6_k1 : AC := (.seq (.reg a6_r3) .ret)
def a6_k2 : AC := (.seq (.reg a6_r2) a6_k1)
def a6_k3 : AC := (.seq (.reg a6_r1) a6_k2)
def a6_B : AC := (.seq (.reg a6_r0) a6_k3)
/-- catchpole/catchpolelaw18.awake -/
def a6 : AF := { N := 21, V := [1, 2], body := a6_B, res := [.t 0] }
theorem c6 : chkF P a6 Go.Proofs.Tryd.f6 = true := by kernel_rfl
/-- catchpole/catchpolelaw18.awake -/
def law18_awake (k : Nat)  : Option Bool := match k with
  | 0 => none
  | k + 1 =>
    (byteset_Of k ([97])).bind fun y4 =>
    (simp_Of k (T_coded_Coded.mk 4 [] (Arr.rep 4 0) [(T_coded_Coded.mk 2 [] y4 []), (T_coded_Coded.mk 2 [] y4 [])])).bind fun y10 =>
    if (y10.Kind == 2) = true then ((byteset_Of k ([97])).bind fun y18 =>
    some (y10.Set == y18))
    else some false
def S_law18_awake (k : Nat) : Prop := ∀  (r : Bool), law18_awake k  = some r → ∀ H, Ev P 6 [] H (.bool r) H
structure C_law18_awake (k : Nat) : Prop where
  law18_awake : S_law18_awake k
theorem t_law18_awake (k : Nat) (ih : C_law18_awake k) : S_law18_awake (k + 1) := by
  intro  r h H0
  rw [law18_awake] at h
  refine evc_intro a6 Go.Proofs.Tryd.func6 c6 (Nat.le_of_ble_eq_true rfl) cl_nil rfl ?_ H0
  generalize ([] : List (Option (List D))) = H
  show wpc (Ev P) a6_B (retN a6.res (.bool r)) _
  refine c_seq ?_
  refine c_reg ?_
  refine o_mvk ?_
  refine o_nil ?_
  refine k_then ?_
  refine c_seq ?_
  refine c_reg ?_
  refine o_bsl (f := (D.int .u8)) (v_cons (vk (copy_of_int _ _)) v_nil) (l_cons rfl l_nil) elem_int ?_
  obtain ⟨y4, hy4, h⟩ := bind_some h
  refine o_call rfl (g_cons (gt_ rfl (copy_of_own _ _)) g_nil) (s_byteset_Of k _ _ hy4 _) ?_
  refine o_build (fill_z (z' := T_coded_Coded.cells lw (T_coded_Coded.mk 0 [] (Arr.rep 4 0) [])) rfl (fill_cons (vk (copy_of_int _ _)) rfl rfl cc_int (T_coded_Coded.spl_Kind _ 2) (fill_cons (vt rfl (copy_of_agg _)) len_arr om_int cm_int (T_coded_Coded.spl_Set _ y4) fill_nil))) ?_
  refine o_alloc (cs := T_coded_Coded.cells lw (T_coded_Coded.mk 0 [] (Arr.rep 4 0) [])) rfl ?_
  refine o_st rfl (lv_v rfl) (gt_ rfl (copy_of_agg _)) (cells_of_agg _) (T_coded_Coded.len _ _) (T_coded_Coded.one wr_l _) rfl (splice_all (n := 7) (T_coded_Coded.len _ _) (T_coded_Coded.len _ _)) ?_
  refine o_nil ?_
  refine k_then ?_
  refine c_seq ?_
  refine c_reg ?_
  refine o_ld (lv_v rfl) rfl (cut_all (T_coded_Coded.len _ _)) (T_coded_Coded.copy wr_l _) ?_
  refine o_ld (lv_v rfl) rfl (cut_all (T_coded_Coded.len _ _)) (T_coded_Coded.copy wr_l _) ?_
  refine o_bsl (f := T_coded_Coded.enc) (v_cons (vt rfl (copy_of_agg _)) (v_cons (vt rfl (copy_of_agg _)) v_nil)) (l_cons (T_coded_Coded.enc_eq _).symm (l_cons (T_coded_Coded.enc_eq _).symm l_nil)) T_coded_Coded.elem ?_
  refine o_build (fill_z (z' := T_coded_Coded.cells lw (T_coded_Coded.mk 0 [] (Arr.rep 4 0) [])) rfl (fill_cons (vk (copy_of_int _ _)) rfl rfl cc_int (T_coded_Coded.spl_Kind _ 4) (fill_cons (vt rfl (copy_of_own _ _)) rfl rfl cc_list (T_coded_Coded.spl_L (w' := lw) _ ([(T_coded_Coded.mk 2 [] y4 []), (T_coded_Coded.mk 2 [] y4 [])])) fill_nil))) ?_
  obtain ⟨y10, hy10, h⟩ := bind_some h
  refine o_call rfl (g_cons (gt_ rfl (copy_of_agg _)) g_nil) (s_simp_Of k _ _ hy10 _) ?_
  refine o_alloc (cs := T_coded_Coded.cells lw (T_coded_Coded.mk 0 [] (Arr.rep 4 0) [])) rfl ?_
  refine o_st rfl (lv_v rfl) (gt_ rfl (copy_of_agg _)) (cells_of_agg _) (T_coded_Coded.len _ _) (T_coded_Coded.one wr_l _) rfl (splice_all (n := 7) (T_coded_Coded.len _ _) (T_coded_Coded.len _ _)) ?_
  refine o_nil ?_
  refine k_then ?_
  refine c_seq ?_
  refine c_reg ?_
  refine o_fa (lv_v rfl) ?_
  refine o_ldv1 (lv_l rfl) rfl (T_coded_Coded.cut_Kind lw _) (copy_of_int _ _) ?_
  refine o_bin (vt rfl (copy_of_int _ _)) (vk (copy_of_int _ _)) bin_eql ?_
  refine o_mvt rfl (copy_of_bool _) ?_
  by_cases c1 : (y10.Kind == 2) = true
  · have h := it_t h c1
    refine o_g_t rfl c1 ?_
    refine o_fa (lv_v rfl) ?_
    refine o_g_t rfl c1 ?_
    refine o_ldv (lv_l rfl) rfl (T_coded_Coded.cut_Set lw _) cm_int ?_
    refine o_g_t rfl c1 ?_
    refine o_bsl (f := (D.int .u8)) (v_cons (vk (copy_of_int _ _)) v_nil) (l_cons rfl l_nil) elem_int ?_
    refine o_g_t rfl c1 ?_
    obtain ⟨y18, hy18, h⟩ := bind_some h
    refine o_callq (g_cons (gt_ rfl (copy_of_own _ _)) g_nil) (s_byteset_Of k _ _ hy18 _) ?_
    refine o_g_t rfl c1 ?_
    refine o_eqv (vt rfl (copy_of_agg _)) (vt rfl (copy_of_agg _)) deq_arr_int ?_
    refine o_pick_t (vt rfl (copy_of_bool _)) c1 (vt rfl (copy_of_bool _)) ?_
    refine o_mvt rfl (copy_of_bool _) ?_
    refine o_nil ?_
    refine k_then ?_
    refine c_ret ?_
    obtain rfl := Option.some.inj h
    exact r_one rfl (res_t rfl (copy_of_bool _)) (.inl rfl)
  · have c1 := bf c1
    have h := it_f h c1
    refine o_g_f rfl (ne_f c1) ?_
    refine o_g_f rfl (ne_f c1) ?_
    refine o_g_f rfl (ne_f c1) ?_
    refine o_g_f rfl (ne_f c1) ?_
    refine o_g_f rfl (ne_f c1) ?_
    refine o_pick_f (vt rfl (copy_of_bool _)) c1 (vk (copy_of_bool _)) ?_
    refine o_mvt rfl (copy_of_bool _) ?_
    refine o_nil ?_
    refine k_then ?_
    refine c_ret ?_
    obtain rfl := Option.some.inj h
    exact r_one rfl (res_t rfl (copy_of_bool _)) (.inl rfl)
theorem z_law18_awake : S_law18_awake 0 := by
  intro  r h H
  rw [law18_awake] at h; cases h
theorem C_law18_awake.all : ∀ k, C_law18_awake k
  | 0 => ⟨z_law18_awake⟩
  | k + 1 => ⟨t_law18_awake k (C_law18_awake.all k)⟩
theorem s_law18_awake (k : Nat) : S_law18_awake k := (C_law18_awake.all k).law18_awake
def a7_r0 : List AI := [
  { dst := some 2, op := .box (.t 0) },
  { dst := some 4, op := .mv (.k (.bool false)) }]
def a7_r1 : List AI := [
  { dst := some 6, op := .mv (.t 1) },
  { dst := some 7, op := .bin .lss (.t 6) (.k (.int .i64 1)) },
  { dst := some 8, op := .mv (.t 7) },
  { dst := some 9, g := some (8, false), op := .fa 2 6 },
  { dst := some 10, g := some (8, false), op := .ld none 9 },
  { dst := some 11, g := some (8, false), op := .len false (.t 10) },
  { dst := some 12, g := some (8, false), op := .bin .gtr (.t 11) (.k (.int .i64 20)) },
  { dst := some 13, op := .pick (.t 8) (.k (.bool true)) (.t 12) },
  { dst := some 14, op := .mv (.t 13) },
  { dst := some 15, g := some (14, false), op := .fa 2 1 },
  { dst := some 16, g := some (14, false), op := .ld none 15 },
  { dst := some 17, g := some (14, false), op := .len true (.t 16) },
  { dst := some 18, g := some (14, false), op := .bin .gtr (.t 17) (.k (.int .i64 60)) },
  { dst := some 19, op := .pick (.t 14) (.k (.bool true)) (.t 18) }]
def a7_r2 : List AI := [
  { dst := some 4, op := .mv (.k (.bool true)) }]
def a7_k1 : AC := (.cond (.t 19) (.seq (.reg a7_r2) .ret) .skip)
def a7_r3 : List AI := [
  { dst := some 5, op := .mv (.k (.int .i64 0)) }]
def a7_r4 : List AI := [
  { dst := some 20, op := .mv (.t 5) },
  { dst := some 21, op := .fa 2 6 },
  { dst := some 22, op := .ld none 21 },
  { dst := some 23, op := .len false (.t 22) },
  { dst := some 24, op := .bin .lss (.t 20) (.t 23) }]
def a7_k2 : AC := (.cond (.t 24) .skip (.exit 0))
def a7_r6 : List AI := [
  { dst := some 27, op := .fa 2 6 },
  { dst := some 28, op := .ld none 27 },
  { dst := some 29, op := .mv (.t 5) },
  { dst := some 30, op := .ias 7 (.t 28) (.t 29) },
  { dst := some 31, op := .ld (some 7) 30 },
  { dst := some 32, op := .mv (.t 1) },
  { dst := some 33, op := .bin .sub (.t 32) (.k (.int .i64 1)) },
  { dst := some 34, op := .call 7 [(.t 31), (.t 33)] }]
def a7_r7 : List AI := [
  { dst := some 4, op := .mv (.k (.bool true)) }]
def a7_k3 : AC := (.cond (.t 34) (.seq (.reg a7_r7) .ret) .skip)
def a7_r5 : List AI := [
  { dst := some 25, op := .mv (.t 5) },
  { dst := some 26, op := .bin .add (.t 25) (.k (.int .i64 1)) },
  { dst := some 5, op := .mv (.t 26) }]
def a7_k4 : AC := (.seq (.block 1 (.seq (.reg a7_r6) a7_k3)) (.reg a7_r5))
def a7_L1 : AC := (.seq (.seq (.reg a7_r4) a7_k2) a7_k4)
def a7_k5 : AC := (.block 0 (.loop a7_L1))
def a7_r8 : List AI := [
  { dst := some 4, op := .mv (.k (.bool false)) }]
def a7_k6 : AC := (.seq (.reg a7_r8) .ret)
def a7_k7 : AC := (.seq (.seq (.reg a7_r3) a7_k5) a7_k6)
def a7_k8 : AC := (.seq (.seq (.reg a7_r1) a7_k1) a7_k7)
def a7_B : AC := (.seq (.reg a7_r0) a7_k8)
/-- catchpole/catchpolelaw18.vast -/
def a7 : AF := { N := 35, V := [2], body := a7_B, res := [.t 4] }
theorem c7 : chkF P a7 Go.Proofs.Tryd.f7 = true := by kernel_rfl
mutual
/-- catchpole/catchpolelaw18.vast -/
def law18_vast (k : Nat) (x0 : T_coded_Coded) (x1 : Int) : Option Bool := match k with
  | 0 => none
  | k + 1 =>
    if (((decide (x1 < 1)) || (decide ((x0.L.length : Int) > 20))) || (decide ((x0.Bits.length : Int) > 60))) = true then (some true)
    else law18_vast_L1 k x1 x0 0
def law18_vast_L1 (k : Nat) (t1 : Int) (v2 : T_coded_Coded) (t5 : Int) : Option Bool := match k with
  | 0 => none
  | k + 1 =>
    if (decide (t5 < (v2.L.length : Int))) = true then ((at_ v2.L t5).bind fun y30 =>
    (law18_vast k y30 (IntKind.i64.wrap (t1 - 1))).bind fun y34 =>
    if y34 = true then (some true)
    else law18_vast_L1 k t1 v2 (IntKind.i64.wrap (t5 + 1)))
    else some false
end
def a7_q1 (R : Ex → St → Prop) : Ex → St → Prop := Ex.then (wpc (Ev P) a7_k7 R) R
def a7_q2 (R : Ex → St → Prop) : Ex → St → Prop := Ex.then (wpc (Ev P) a7_k1 (a7_q1 R)) (a7_q1 R)
def a7_q3 (R : Ex → St → Prop) : Ex → St → Prop := Ex.then (wpc (Ev P) a7_k6 R) R
def a7_q4 (R : Ex → St → Prop) : Ex → St → Prop := Ex.inBlock 0 (a7_q3 R)
def S_law18_vast (k : Nat) : Prop := ∀ (x0 : T_coded_Coded) (x1 : Int) (r : Bool), law18_vast k x0 x1 = some r → ∀ H, Ev P 7 [(.agg (T_coded_Coded.cells lw x0)), (.int .i64 x1)] H (.bool r) H
def S_law18_vast_L1 (k : Nat) : Prop := ∀ (t1 : Int) (v2 : T_coded_Coded) (t5 : Int) (r : Bool) (ρ : Nat → Slot) (H : List (Option (List D))) , law18_vast_L1 k t1 v2 t5 = some r → wpc (Ev P) (.loop a7_L1) (a7_q4 (retN a7.res (.bool r))) ⟨upds ρ [(1, .d (.int .i64 t1)), (2, .var (T_coded_Coded.cells lw v2)), (5, .d (.int .i64 t5))], H⟩
structure C_law18_vast (k : Nat) : Prop where
  law18_vast : S_law18_vast k
  law18_vast_L1 : S_law18_vast_L1 k
theorem t_law18_vast (k : Nat) (ih : C_law18_vast k) : S_law18_vast (k + 1) := by
  intro x0 x1 r h H0
  rw [law18_vast] at h
  refine evc_intro a7 Go.Proofs.Tryd.func7 c7 (Nat.le_of_ble_eq_true rfl) (cl_cons (T_coded_Coded.closed _) (cl_cons rfl cl_nil)) rfl ?_ H0
  generalize ([] : List (Option (List D))) = H
  show wpc (Ev P) a7_B (retN a7.res (.bool r)) _
  refine c_seq ?_
  refine c_reg ?_
  refine o_box (vt rfl (copy_of_agg _)) (T_coded_Coded.one wr_l _) (T_coded_Coded.copy wr_l _) ?_
  refine o_mvk ?_
  refine o_nil ?_
  refine k_then ?_
  refine c_seq ?_
  refine c_seq ?_
  refine c_reg ?_
  refine o_mvt rfl (copy_of_int _ _) ?_
  refine o_bin (vt rfl (copy_of_int _ _)) (vk (copy_of_int _ _)) bin_lss ?_
  refine o_mvt rfl (copy_of_bool _) ?_
  have key1 : ∀ ρ : Nat → Slot, wpo (Ev P) (a7_r1.drop 8) ((a7_q2 (retN a7.res (.bool r))) .normal) ⟨upds ρ [(1, .d (.int .i64 x1)), (2, .var (T_coded_Coded.cells lw x0)), (13, .d (.bool ((decide (x1 < 1)) || (decide ((x0.L.length : Int) > 20)))))], H⟩ := by
    intro ρ
    refine o_mvt rfl (copy_of_bool _) ?_
    have key3 : ∀ ρ : Nat → Slot, wpo (Ev P) (a7_r1.drop 14) ((a7_q2 (retN a7.res (.bool r))) .normal) ⟨upds ρ [(1, .d (.int .i64 x1)), (2, .var (T_coded_Coded.cells lw x0)), (19, .d (.bool (((decide (x1 < 1)) || (decide ((x0.L.length : Int) > 20))) || (decide ((x0.Bits.length : Int) > 60)))))], H⟩ := by
      intro ρ
      refine o_nil ?_
      refine k_then ?_
      by_cases c5 : (((decide (x1 < 1)) || (decide ((x0.L.length : Int) > 20))) || (decide ((x0.Bits.length : Int) > 60))) = true
      · have h := it_t h c5
        refine c_cond_t (vt rfl (copy_of_bool _)) c5 ?_
        refine c_seq ?_
        refine c_reg ?_
        refine o_mvk ?_
        refine o_nil ?_
        refine k_then ?_
        refine c_ret ?_
        refine k_then_ret ?_
        obtain rfl := Option.some.inj h
        exact r_one rfl (res_t rfl (copy_of_bool _)) (.inl rfl)
      · have c5 := bf c5
        have h := it_f h c5
        refine c_cond_f (vt rfl (copy_of_bool _)) c5 ?_
        refine c_skip ?_
        refine k_then ?_
        refine c_seq ?_
        refine c_seq ?_
        refine c_reg ?_
        refine o_mvk ?_
        refine o_nil ?_
        refine k_then ?_
        refine c_block ?_
        exact wpc_head (ih.law18_vast_L1 _ _ _ _ _ _ h) ⟨rfl, rfl, rfl, trivial⟩
    by_cases c4 : ((decide (x1 < 1)) || (decide ((x0.L.length : Int) > 20))) = true
    · clear h
      refine o_g_f rfl (ne_t c4) ?_
      refine o_g_f rfl (ne_t c4) ?_
      refine o_g_f rfl (ne_t c4) ?_
      refine o_g_f rfl (ne_t c4) ?_
      refine o_pick_t (vt rfl (copy_of_bool _)) c4 (vk (copy_of_bool _)) ?_
      exact wpo_head (key3 _) ⟨rfl, rfl, (by simp only [c4]; rfl), trivial⟩
    · clear h
      have c4 := bf c4
      refine o_g_t rfl c4 ?_
      refine o_fa (lv_v rfl) ?_
      refine o_g_t rfl c4 ?_
      refine o_ld1 (lv_l rfl) rfl (T_coded_Coded.cut_Bits lw _) (copy_of_str _) ?_
      refine o_g_t rfl c4 ?_
      refine o_len (vt rfl (copy_of_str _)) rfl (fun _ => ?_)
      refine o_g_t rfl c4 ?_
      refine o_bin (vt rfl (copy_of_int _ _)) (vk (copy_of_int _ _)) bin_gtr ?_
      refine o_pick_f (vt rfl (copy_of_bool _)) c4 (vt rfl (copy_of_bool _)) ?_
      exact wpo_head (key3 _) ⟨rfl, rfl, (by simp only [c4]; rfl), trivial⟩
  by_cases c2 : (decide (x1 < 1)) = true
  · clear h
    refine o_g_f rfl (ne_t c2) ?_
    refine o_g_f rfl (ne_t c2) ?_
    refine o_g_f rfl (ne_t c2) ?_
    refine o_g_f rfl (ne_t c2) ?_
    refine o_pick_t (vt rfl (copy_of_bool _)) c2 (vk (copy_of_bool _)) ?_
    exact wpo_head (key1 _) ⟨rfl, rfl, (by simp only [c2]; rfl), trivial⟩
  · clear h
    have c2 := bf c2
    refine o_g_t rfl c2 ?_
    refine o_fa (lv_v rfl) ?_
    refine o_g_t rfl c2 ?_
    refine o_ld1 (lv_l rfl) rfl (T_coded_Coded.cut_L lw _) (Wr.copy wr_l _ _) ?_
    refine o_g_t rfl c2 ?_
    refine o_len_l (vt rfl (copy_of_list _)) (fun _ => ?_)
    refine o_g_t rfl c2 ?_
    refine o_bin (vt rfl (copy_of_int _ _)) (vk (copy_of_int _ _)) bin_gtr ?_
    refine o_pick_f (vt rfl (copy_of_bool _)) c2 (vt rfl (copy_of_bool _)) ?_
    exact wpo_head (key1 _) ⟨rfl, rfl, (by simp only [c2]; rfl), trivial⟩
theorem t_law18_vast_L1 (k : Nat) (ih : C_law18_vast k) : S_law18_vast_L1 (k + 1) := by
  intro t1 v2 t5 r ρ H h
  rw [law18_vast_L1] at h
  refine wpc_loop_i ?_
  refine c_seq ?_
  refine c_seq ?_
  refine c_reg ?_
  refine o_mvt rfl (copy_of_int _ _) ?_
  refine o_fa (lv_v rfl) ?_
  refine o_ld1 (lv_l rfl) rfl (T_coded_Coded.cut_L lw _) (Wr.copy wr_l _ _) ?_
  refine o_len_l (vt rfl (copy_of_list _)) (fun _ => ?_)
  refine o_bin (vt rfl (copy_of_int _ _)) (vt rfl (copy_of_int _ _)) bin_lss ?_
  refine o_nil ?_
  refine k_then ?_
  by_cases c1 : (decide (t5 < (v2.L.length : Int))) = true
  · have h := it_t h c1
    refine c_cond_t (vt rfl (copy_of_bool _)) c1 ?_
    refine c_skip ?_
    refine k_then ?_
    refine c_seq ?_
    refine c_block ?_
    refine c_seq ?_
    refine c_reg ?_
    refine o_fa (lv_v rfl) ?_
    refine o_ld1 (lv_l rfl) rfl (T_coded_Coded.cut_L lw _) (Wr.copy wr_l _ _) ?_
    refine o_mvt rfl (copy_of_int _ _) ?_
    obtain ⟨y30, hy30, h⟩ := bind_some h
    refine o_ias (vt rfl (copy_of_list _)) (vt rfl (copy_of_int _ _)) hy30 (T_coded_Coded.enc_cells _) (T_coded_Coded.len lw _) ?_
    refine o_ldi rfl (cut_all (T_coded_Coded.len _ _)) (T_coded_Coded.copy wr_l _) ?_
    refine o_mvt rfl (copy_of_int _ _) ?_
    refine o_bin (vt rfl (copy_of_int _ _)) (vk (copy_of_int _ _)) bin_sub ?_
    obtain ⟨y34, hy34, h⟩ := bind_some h
    refine o_call rfl (g_cons (gt_ rfl (copy_of_agg _)) (g_cons (gt_ rfl (copy_of_int _ _)) g_nil)) (ih.law18_vast _ _ _ hy34 _) ?_
    refine o_nil ?_
    refine k_then ?_
    by_cases c2 : y34 = true
    · have h := it_t h c2
      refine c_cond_t (vt rfl (copy_of_bool _)) c2 ?_
      refine c_seq ?_
      refine c_reg ?_
      refine o_mvk ?_
      refine o_nil ?_
      refine k_then ?_
      refine c_ret ?_
      refine k_block_ret ?_
      refine k_then_ret ?_
      refine k_then_ret ?_
      refine k_block_ret ?_
      refine k_then_ret ?_
      obtain rfl := Option.some.inj h
      exact r_one rfl (res_t rfl (copy_of_bool _)) (.inl rfl)
    · have c2 := bf c2
      have h := it_f h c2
      refine c_cond_f (vt rfl (copy_of_bool _)) c2 ?_
      refine c_skip ?_
      refine k_block _ ?_
      refine k_then ?_
      refine c_reg ?_
      refine o_mvt rfl (copy_of_int _ _) ?_
      refine o_bin (vt rfl (copy_of_int _ _)) (vk (copy_of_int _ _)) bin_add ?_
      refine o_mvt rfl (copy_of_int _ _) ?_
      refine o_nil ?_
      refine k_then ?_
      exact wpc_head (ih.law18_vast_L1 _ _ _ _ _ _ h) ⟨rfl, rfl, rfl, trivial⟩
  · have c1 := bf c1
    have h := it_f h c1
    refine c_cond_f (vt rfl (copy_of_bool _)) c1 ?_
    refine c_exit ?_
    refine k_then_exit ?_
    refine k_then_exit ?_
    refine k_block_exit _ ?_
    refine k_then ?_
    refine c_seq ?_
    refine c_reg ?_
    refine o_mvk ?_
    refine o_nil ?_
    refine k_then ?_
    refine c_ret ?_
    obtain rfl := Option.some.inj h
    exact r_one rfl (res_t rfl (copy_of_bool _)) (.inl rfl)
theorem z_law18_vast : S_law18_vast 0 := by
  intro x0 x1 r h H
  rw [law18_vast] at h; cases h
theorem z_law18_vast_L1 : S_law18_vast_L1 0 := by
  intro t1 v2 t5 r ρ H h
  rw [law18_vast_L1] at h; cases h
theorem C_law18_vast.all : ∀ k, C_law18_vast k
  | 0 => ⟨z_law18_vast, z_law18_vast_L1⟩
  | k + 1 => ⟨t_law18_vast k (C_law18_vast.all k), t_law18_vast_L1 k (C_law18_vast.all k)⟩
theorem s_law18_vast (k : Nat) : S_law18_vast k := (C_law18_vast.all k).law18_vast
def a61_r0 : List AI := [
  { dst := some 1, op := .box (.t 0) },
  { dst := some 2, op := .alloc (List.replicate 256 (.bool false)) }]
def a61_r1 : List AI := [
  { dst := some 3, op := .alloc (List.replicate 256 (.bool false)) }]
def a61_r2 : List AI := [
  { dst := some 4, op := .mv (.k (.int .i64 0)) }]
def a61_r3 : List AI := [
  { dst := some 5, op := .mv (.t 4) },
  { dst := some 6, op := .bin .lss (.t 5) (.k (.int .i64 256)) }]
def a61_k1 : AC := (.cond (.t 6) .skip (.exit 0))
def a61_r5 : List AI := [
  { dst := some 9, op := .mv (.t 4) },
  { dst := some 10, op := .mv (.t 4) },
  { dst := some 11, op := .bin .quo (.t 10) (.k (.int .i64 64)) },
  { dst := some 12, op := .iaa 4 1 1 (.t 11) },
  { dst := some 13, op := .ld none 12 },
  { dst := some 14, op := .mv (.t 4) },
  { dst := some 15, op := .bin .rem (.t 14) (.k (.int .i64 64)) },
  { dst := some 16, op := .conv (.int .u64) (.t 15) },
  { dst := some 17, op := .bin .shr (.t 13) (.t 16) },
  { dst := some 18, op := .bin .and (.t 17) (.k (.int .u64 1)) },
  { dst := some 19, op := .bin .eql (.t 18) (.k (.int .u64 1)) },
  { dst := some 20, op := .iaa 256 1 3 (.t 9) },
  { dst := none, op := .st 1 20 (.t 19) }]
def a61_r4 : List AI := [
  { dst := some 7, op := .mv (.t 4) },
  { dst := some 8, op := .bin .add (.t 7) (.k (.int .i64 1)) },
  { dst := some 4, op := .mv (.t 8) }]
def a61_k2 : AC := (.seq (.block 1 (.reg a61_r5)) (.reg a61_r4))
def a61_L1 : AC := (.seq (.seq (.reg a61_r3) a61_k1) a61_k2)
def a61_k3 : AC := (.block 0 (.loop a61_L1))
def a61_r6 : List AI := [
  { dst := some 21, op := .ld (some 256) 3 },
  { dst := none, op := .st 256 2 (.t 21) }]
def a61_k4 : AC := (.seq (.reg a61_r6) .ret)
def a61_k5 : AC := (.seq (.seq (.reg a61_r2) a61_k3) a61_k4)
def a61_k6 : AC := (.seq (.reg a61_r1) a61_k5)
def a61_B : AC := (.seq (.reg a61_r0) a61_k6)
/-- catchpole/catchpoleref1.From -/
def a61 : AF := { N := 22, V := [1, 2, 3], body := a61_B, res := [.c (some 256) 2] }
theorem c61 : chkF P a61 Go.Proofs.Tryd.f61 = true := by kernel_rfl
mutual
/-- catchpole/catchpoleref1.From -/
def ref1_From (k : Nat) (x0 : (Arr Int 4)) : Option (Arr Bool 256) := match k with
  | 0 => none
  | k + 1 =>
    ref1_From_L1 k x0 (Arr.rep 256 false) (Arr.rep 256 false) 0
def ref1_From_L1 (k : Nat) (v1 : (Arr Int 4)) (v2 : (Arr Bool 256)) (v3 : (Arr Bool 256)) (t4 : Int) : Option (Arr Bool 256) := match k with
  | 0 => none
  | k + 1 =>
    if (decide (t4 < 256)) = true then (need ((0 : Int) ≤ (IntKind.i64.wrap (t4.tdiv 64)) ∧ (IntKind.i64.wrap (t4.tdiv 64)) < ((4 : Nat) : Int)) <|
    need ((0 : Int) ≤ (IntKind.u64.wrap (t4.tmod 64))) <|
    need ((0 : Int) ≤ t4 ∧ t4 < ((256 : Nat) : Int)) <|
    ref1_From_L1 k v1 v2 (v3.set t4 ((andI .u64 (shrI .u64 (v1.gd (IntKind.i64.wrap (t4.tdiv 64)) 0) (IntKind.u64.wrap (t4.tmod 64))) 1) == 1)) (IntKind.i64.wrap (t4 + 1)))
    else some v3
end
def a61_q1 (R : Ex → St → Prop) : Ex → St → Prop := Ex.then (wpc (Ev P) a61_k4 R) R
def a61_q2 (R : Ex → St → Prop) : Ex → St → Prop := Ex.inBlock 0 (a61_q1 R)
def S_ref1_From (k : Nat) : Prop := ∀ (x0 : (Arr Int 4)) (r : (Arr Bool 256)), ref1_From k x0 = some r → ∀ H, Ev P 61 [(.agg (x0.l.map (D.int .u64)))] H (.agg (r.l.map D.bool)) H
def S_ref1_From_L1 (k : Nat) : Prop := ∀ (v1 : (Arr Int 4)) (v2 : (Arr Bool 256)) (v3 : (Arr Bool 256)) (t4 : Int) (r : (Arr Bool 256)) (ρ : Nat → Slot) (H : List (Option (List D))) , ref1_From_L1 k v1 v2 v3 t4 = some r → wpc (Ev P) (.loop a61_L1) (a61_q2 (retN a61.res (.agg (r.l.map D.bool)))) ⟨upds ρ [(1, .var (v1.l.map (D.int .u64))), (2, .var (v2.l.map D.bool)), (3, .var (v3.l.map D.bool)), (4, .d (.int .i64 t4))], H⟩
structure C_ref1_From (k : Nat) : Prop where
  ref1_From : S_ref1_From k
  ref1_From_L1 : S_ref1_From_L1 k
theorem t_ref1_From (k : Nat) (ih : C_ref1_From k) : S_ref1_From (k + 1) := by
  intro x0 r h H0
  rw [ref1_From] at h
  refine evc_intro a61 Go.Proofs.Tryd.func61 c61 (Nat.le_of_ble_eq_true rfl) (cl_cons closed_ai cl_nil) closed_ab ?_ H0
  generalize ([] : List (Option (List D))) = H
  show wpc (Ev P) a61_B (retN a61.res (.agg (r.l.map D.bool))) _
  refine c_seq ?_
  refine c_reg ?_
  refine o_box (vt rfl (copy_of_agg _)) om_int cm_int ?_
  refine o_alloc (cs := (Arr.rep 256 false).l.map D.bool) (by simp [Arr.rep, lw, ow]) ?_
  refine o_nil ?_
  refine k_then ?_
  refine c_seq ?_
  refine c_reg ?_
  refine o_alloc (cs := (Arr.rep 256 false).l.map D.bool) (by simp [Arr.rep, lw, ow]) ?_
  refine o_nil ?_
  refine k_then ?_
  refine c_seq ?_
  refine c_seq ?_
  refine c_reg ?_
  refine o_mvk ?_
  refine o_nil ?_
  refine k_then ?_
  refine c_block ?_
  exact wpc_head (ih.ref1_From_L1 _ _ _ _ _ _ _ h) ⟨rfl, rfl, rfl, rfl, trivial⟩
theorem t_ref1_From_L1 (k : Nat) (ih : C_ref1_From k) : S_ref1_From_L1 (k + 1) := by
  intro v1 v2 v3 t4 r ρ H h
  rw [ref1_From_L1] at h
  refine wpc_loop_i ?_
  refine c_seq ?_
  refine c_seq ?_
  refine c_reg ?_
  refine o_mvt rfl (copy_of_int _ _) ?_
  refine o_bin (vt rfl (copy_of_int _ _)) (vk (copy_of_int _ _)) bin_lss ?_
  refine o_nil ?_
  refine k_then ?_
  by_cases c1 : (decide (t4 < 256)) = true
  · have h := it_t h c1
    refine c_cond_t (vt rfl (copy_of_bool _)) c1 ?_
    refine c_skip ?_
    refine k_then ?_
    refine c_seq ?_
    refine c_block ?_
    refine c_reg ?_
    refine o_mvt rfl (copy_of_int _ _) ?_
    refine o_mvt rfl (copy_of_int _ _) ?_
    refine o_bin (vt rfl (copy_of_int _ _)) (vk (copy_of_int _ _)) (bin_quo (by decide)) ?_
    obtain ⟨c2, h⟩ := need_some h
    refine o_iaa (lv_v rfl) (vt rfl (copy_of_int _ _)) c2 ?_
    refine o_ld1 (lv_l rfl) rfl (cut_map' (arr_gd (z := 0) c2)) (copy_of_int _ _) ?_
    refine o_mvt rfl (copy_of_int _ _) ?_
    refine o_bin (vt rfl (copy_of_int _ _)) (vk (copy_of_int _ _)) (bin_rem (by decide)) ?_
    refine o_cvi (vt rfl (copy_of_int _ _)) ?_
    obtain ⟨c3, h⟩ := need_some h
    refine o_bin (vt rfl (copy_of_int _ _)) (vt rfl (copy_of_int _ _)) (bin_shr' c3) ?_
    refine o_bin (vt rfl (copy_of_int _ _)) (vk (copy_of_int _ _)) bin_and ?_
    refine o_bin (vt rfl (copy_of_int _ _)) (vk (copy_of_int _ _)) bin_eql ?_
    obtain ⟨c4, h⟩ := need_some h
    refine o_iaa (lv_v rfl) (vt rfl (copy_of_int _ _)) c4 ?_
    refine o_st rfl (lv_l rfl) (gt_ rfl (copy_of_bool _)) (cells_of_bool _) rfl rfl rfl (splice_map' (Int.toNat_lt c4.1 |>.2 c4.2)) ?_
    refine o_nil ?_
    refine k_block _ ?_
    refine k_then ?_
    refine c_reg ?_
    refine o_mvt rfl (copy_of_int _ _) ?_
    refine o_bin (vt rfl (copy_of_int _ _)) (vk (copy_of_int _ _)) bin_add ?_
    refine o_mvt rfl (copy_of_int _ _) ?_
    refine o_nil ?_
    refine k_then ?_
    exact wpc_head (ih.ref1_From_L1 _ _ _ _ _ _ _ h) ⟨rfl, rfl, rfl, rfl, trivial⟩
  · have c1 := bf c1
    have h := it_f h c1
    refine c_cond_f (vt rfl (copy_of_bool _)) c1 ?_
    refine c_exit ?_
    refine k_then_exit ?_
    refine k_then_exit ?_
    refine k_block_exit _ ?_
    refine k_then ?_
    refine c_seq ?_
    refine c_reg ?_
    refine o_ld (lv_v rfl) rfl (cut_all len_arr) cm_bool ?_
    refine o_st rfl (lv_v rfl) (gt_ rfl (copy_of_agg _)) (cells_of_agg _) len_arr om_bool rfl (splice_all (n := 256) len_arr len_arr) ?_
    refine o_nil ?_
    refine k_then ?_
    refine c_ret ?_
    obtain rfl := Option.some.inj h
    exact r_one rfl (res_c rfl (cut_all len_arr) cm_bool) (.inl rfl)
theorem z_ref1_From : S_ref1_From 0 := by
  intro x0 r h H
  rw [ref1_From] at h; cases h
theorem z_ref1_From_L1 : S_ref1_From_L1 0 := by
  intro v1 v2 v3 t4 r ρ H h
  rw [ref1_From_L1] at h; cases h
theorem C_ref1_From.all : ∀ k, C_ref1_From k
  | 0 => ⟨z_ref1_From, z_ref1_From_L1⟩
  | k + 1 => ⟨t_ref1_From k (C_ref1_From.all k), t_ref1_From_L1 k (C_ref1_From.all k)⟩
theorem s_ref1_From (k : Nat) : S_ref1_From k := (C_ref1_From.all k).ref1_From
def a33_r0 : List AI := [
  { dst := some 1, op := .box (.t 0) },
  { dst := some 2, op := .alloc (List.replicate 256 (.bool false)) }]
def a33_r1 : List AI := [
  { dst := some 3, op := .ld (some 4) 1 },
  { dst := some 4, op := .call 61 [(.t 3)] },
  { dst := none, op := .st 256 2 (.t 4) }]
def a33_k1 : AC := (.seq (.reg a33_r1) .ret)
def a33_B : AC := (.seq (.reg a33_r0) a33_k1)
/-- catchpole/catchpolelaw18.own -/
def a33 : AF := { N := 5, V := [1, 2], body := a33_B, res := [.c (some 256) 2] }
theorem c33 : chkF P a33 Go.Proofs.Tryd.f33 = true := by kernel_rfl
/-- catchpole/catchpolelaw18.own -/
def law18_own (k : Nat) (x0 : (Arr Int 4)) : Option (Arr Bool 256) := match k with
  | 0 => none
  | k + 1 =>
    (ref1_From k x0).bind fun y4 =>
    some y4
def S_law18_own (k : Nat) : Prop := ∀ (x0 : (Arr Int 4)) (r : (Arr Bool 256)), law18_own k x0 = some r → ∀ H, Ev P 33 [(.agg (x0.l.map (D.int .u64)))] H (.agg (r.l.map D.bool)) H
structure C_law18_own (k : Nat) : Prop where
  law18_own : S_law18_own k
theorem t_law18_own (k : Nat) (ih : C_law18_own k) : S_law18_own (k + 1) := by
  intro x0 r h H0
  rw [law18_own] at h
  refine evc_intro a33 Go.Proofs.Tryd.func33 c33 (Nat.le_of_ble_eq_true rfl) (cl_cons closed_ai cl_nil) closed_ab ?_ H0
  generalize ([] : List (Option (List D))) = H
  show wpc (Ev P) a33_B (retN a33.res (.agg (r.l.map D.bool))) _
  refine c_seq ?_
  refine c_reg ?_
  refine o_box (vt rfl (copy_of_agg _)) om_int cm_int ?_
  refine o_alloc (cs := (Arr.rep 256 false).l.map D.bool) (by simp [Arr.rep, lw, ow]) ?_
  refine o_nil ?_
  refine k_then ?_
  refine c_seq ?_
  refine c_reg ?_
  refine o_ld (lv_v rfl) rfl (cut_all len_arr) cm_int ?_
  obtain ⟨y4, hy4, h⟩ := bind_some h
  refine o_call rfl (g_cons (gt_ rfl (copy_of_agg _)) g_nil) (s_ref1_From k _ _ hy4 _) ?_
  refine o_st rfl (lv_v rfl) (gt_ rfl (copy_of_agg _)) (cells_of_agg _) len_arr om_bool rfl (splice_all (n := 256) len_arr len_arr) ?_
  refine o_nil ?_
  refine k_then ?_
  refine c_ret ?_
  obtain rfl := Option.some.inj h
  exact r_one rfl (res_c rfl (cut_all len_arr) cm_bool) (.inl rfl)
theorem z_law18_own : S_law18_own 0 := by
  intro x0 r h H
  rw [law18_own] at h; cases h
theorem C_law18_own.all : ∀ k, C_law18_own k
  | 0 => ⟨z_law18_own⟩
  | k + 1 => ⟨t_law18_own k (C_law18_own.all k)⟩
theorem s_law18_own (k : Nat) : S_law18_own k := (C_law18_own.all k).law18_own
end Go.Am
