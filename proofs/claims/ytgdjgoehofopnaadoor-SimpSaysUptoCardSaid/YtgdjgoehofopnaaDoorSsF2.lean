/- Functions over typed data, and that the program comes to their answers: printed by a program of this session. -/
import Derived.Test.YtgdjgoehofopnaaDoorSsF1
set_option linter.unusedSimpArgs false
set_option linter.unusedVariables false
set_option maxRecDepth 10000
namespace Go.Am
open Go
def a104_r0 : List AI := [
  { dst := some 2, op := .mv (.k (.int .i32 0)) },
  { dst := some 3, op := .mv (.k (.int .i64 0)) }]
def a104_r1 : List AI := [
  { dst := some 7, op := .mv (.t 0) },
  { dst := some 8, op := .len true (.t 7) },
  { dst := some 4, op := .mv (.t 8) }]
def a104_r2 : List AI := [
  { dst := some 9, op := .mv (.t 4) },
  { dst := some 10, op := .bin .eql (.t 9) (.k (.int .i64 0)) }]
def a104_r3 : List AI := [
  { dst := some 2, op := .mv (.k (.int .i32 65533)) },
  { dst := some 3, op := .mv (.k (.int .i64 0)) }]
def a104_k1 : AC := (.cond (.t 10) (.seq (.reg a104_r3) .ret) .skip)
def a104_r4 : List AI := [
  { dst := some 11, op := .mv (.t 4) },
  { dst := some 12, op := .bin .sub (.t 11) (.k (.int .i64 1)) },
  { dst := some 5, op := .mv (.t 12) }]
def a104_r5 : List AI := [
  { dst := some 13, op := .mv (.t 0) },
  { dst := some 14, op := .mv (.t 5) },
  { dst := some 15, op := .ixs (.t 13) (.t 14) },
  { dst := some 16, op := .conv (.int .i32) (.t 15) },
  { dst := some 2, op := .mv (.t 16) }]
def a104_r6 : List AI := [
  { dst := some 17, op := .mv (.t 2) },
  { dst := some 18, op := .bin .lss (.t 17) (.k (.int .i32 128)) }]
def a104_r7 : List AI := [
  { dst := some 19, op := .mv (.t 2) },
  { dst := some 2, op := .mv (.t 19) },
  { dst := some 3, op := .mv (.k (.int .i64 1)) }]
def a104_k2 : AC := (.cond (.t 18) (.seq (.reg a104_r7) .ret) .skip)
def a104_r8 : List AI := [
  { dst := some 20, op := .mv (.t 4) },
  { dst := some 21, op := .bin .sub (.t 20) (.k (.int .i64 4)) },
  { dst := some 22, op := .minmax true [(.t 21), (.k (.int .i64 0))] },
  { dst := some 6, op := .mv (.t 22) }]
def a104_r9 : List AI := [
  { dst := some 23, op := .mv (.t 5) },
  { dst := some 24, op := .bin .sub (.t 23) (.k (.int .i64 1)) },
  { dst := some 5, op := .mv (.t 24) }]
def a104_r10 : List AI := [
  { dst := some 25, op := .mv (.t 5) },
  { dst := some 26, op := .mv (.t 6) },
  { dst := some 27, op := .bin .geq (.t 25) (.t 26) }]
def a104_k3 : AC := (.cond (.t 27) .skip (.exit 0))
def a104_r12 : List AI := [
  { dst := some 30, op := .mv (.t 0) },
  { dst := some 31, op := .mv (.t 5) },
  { dst := some 32, op := .ixs (.t 30) (.t 31) },
  { dst := some 33, op := .call 120 [(.t 32)] }]
def a104_k4 : AC := (.cond (.t 33) (.exit 0) .skip)
def a104_r11 : List AI := [
  { dst := some 28, op := .mv (.t 5) },
  { dst := some 29, op := .bin .sub (.t 28) (.k (.int .i64 1)) },
  { dst := some 5, op := .mv (.t 29) }]
def a104_k5 : AC := (.seq (.block 1 (.seq (.reg a104_r12) a104_k4)) (.reg a104_r11))
def a104_L1 : AC := (.seq (.seq (.reg a104_r10) a104_k3) a104_k5)
def a104_k6 : AC := (.block 0 (.loop a104_L1))
def a104_r13 : List AI := [
  { dst := some 34, op := .mv (.t 5) },
  { dst := some 35, op := .bin .lss (.t 34) (.k (.int .i64 0)) }]
def a104_r14 : List AI := [
  { dst := some 5, op := .mv (.k (.int .i64 0)) }]
def a104_k7 : AC := (.cond (.t 35) (.reg a104_r14) .skip)
def a104_r15 : List AI := [
  { dst := some 37, op := .mv (.t 0) },
  { dst := some 38, op := .mv (.t 5) },
  { dst := some 39, op := .mv (.t 4) },
  { dst := some 40, op := .sls (.t 37) (some (.t 38)) (some (.t 39)) },
  { dst := some 41, op := .call 102 [(.t 40)] },
  { dst := some 36, op := .mv (.t 41) },
  { dst := some 42, op := .ext (.t 36) 0 },
  { dst := some 43, op := .ext (.t 36) 1 },
  { dst := some 2, op := .mv (.t 42) },
  { dst := some 3, op := .mv (.t 43) }]
def a104_r16 : List AI := [
  { dst := some 44, op := .mv (.t 5) },
  { dst := some 45, op := .mv (.t 3) },
  { dst := some 46, op := .bin .add (.t 44) (.t 45) },
  { dst := some 47, op := .mv (.t 4) },
  { dst := some 48, op := .bin .neq (.t 46) (.t 47) }]
def a104_r17 : List AI := [
  { dst := some 2, op := .mv (.k (.int .i32 65533)) },
  { dst := some 3, op := .mv (.k (.int .i64 1)) }]
def a104_k8 : AC := (.cond (.t 48) (.seq (.reg a104_r17) .ret) .skip)
def a104_r18 : List AI := [
  { dst := some 49, op := .mv (.t 2) },
  { dst := some 50, op := .mv (.t 3) },
  { dst := some 2, op := .mv (.t 49) },
  { dst := some 3, op := .mv (.t 50) }]
def a104_k9 : AC := (.seq (.reg a104_r18) .ret)
def a104_k10 : AC := (.seq (.seq (.reg a104_r16) a104_k8) a104_k9)
def a104_k11 : AC := (.seq (.reg a104_r15) a104_k10)
def a104_k12 : AC := (.seq (.seq (.reg a104_r13) a104_k7) a104_k11)
def a104_k13 : AC := (.seq (.seq (.reg a104_r9) a104_k6) a104_k12)
def a104_k14 : AC := (.seq (.reg a104_r8) a104_k13)
def a104_k15 : AC := (.seq (.seq (.reg a104_r6) a104_k2) a104_k14)
def a104_k16 : AC := (.seq (.reg a104_r5) a104_k15)
def a104_k17 : AC := (.seq (.reg a104_r4) a104_k16)
def a104_k18 : AC := (.seq (.seq (.reg a104_r2) a104_k1) a104_k17)
def a104_k19 : AC := (.seq (.reg a104_r1) a104_k18)
def a104_B : AC := (.seq (.reg a104_r0) a104_k19)
/-- unicode/utf8.DecodeLastRuneInString -/
def a104 : AF := { N := 51, V := [], body := a104_B, res := [.t 2, .t 3] }
theorem c104 : chkF P a104 Go.Proofs.Tryd.f104 = true := by kernel_rfl
mutual
/-- unicode/utf8.DecodeLastRuneInString -/
def unicode_utf8_DecodeLastRuneInString (k : Nat) (x0 : (List UInt8)) : Option (Int × Int) := match k with
  | 0 => none
  | k + 1 =>
    if ((x0.length : Int) == 0) = true then (some (65533, 0))
    else (at_ x0 (IntKind.i64.wrap ((x0.length : Int) - 1))).bind fun y15 =>
    if (decide ((IntKind.i32.wrap (y15.toNat : Int)) < 128)) = true then (some ((IntKind.i32.wrap (y15.toNat : Int)), 1))
    else unicode_utf8_DecodeLastRuneInString_L1 k x0 (x0.length : Int) (IntKind.i64.wrap ((IntKind.i64.wrap ((x0.length : Int) - 1)) - 1)) (mxI (IntKind.i64.wrap ((x0.length : Int) - 4)) 0)
def unicode_utf8_DecodeLastRuneInString_L1 (k : Nat) (t0 : (List UInt8)) (t4 : Int) (t5 : Int) (t6 : Int) : Option (Int × Int) := match k with
  | 0 => none
  | k + 1 =>
    if (decide (t5 ≥ t6)) = true then ((at_ t0 t5).bind fun y32 =>
    (unicode_utf8_RuneStart k (y32.toNat : Int)).bind fun y33 =>
    if y33 = true then (unicode_utf8_DecodeLastRuneInString_J1 k t0 t4 t5)
    else unicode_utf8_DecodeLastRuneInString_L1 k t0 t4 (IntKind.i64.wrap (t5 - 1)) t6)
    else unicode_utf8_DecodeLastRuneInString_J1 k t0 t4 t5
def unicode_utf8_DecodeLastRuneInString_J1 (k : Nat) (t0 : (List UInt8)) (t4 : Int) (t5 : Int) : Option (Int × Int) := match k with
  | 0 => none
  | k + 1 =>
    if (decide (t5 < 0)) = true then (unicode_utf8_DecodeLastRuneInString_J2 k t0 t4 0)
    else unicode_utf8_DecodeLastRuneInString_J2 k t0 t4 t5
def unicode_utf8_DecodeLastRuneInString_J2 (k : Nat) (t0 : (List UInt8)) (t4 : Int) (t5 : Int) : Option (Int × Int) := match k with
  | 0 => none
  | k + 1 =>
    need ((0 : Int) ≤ t5 ∧ t5 ≤ t4 ∧ t4 ≤ (t0.length : Int)) <|
    (unicode_utf8_DecodeRuneInString k (sub t0 t5 t4)).bind fun y41 =>
    if ((IntKind.i64.wrap (t5 + y41.2)) != t4) = true then (some (65533, 1))
    else some (y41.1, y41.2)
end
def a104_q1 (R : Ex → St → Prop) : Ex → St → Prop := Ex.then (wpc (Ev P) a104_k12 R) R
def a104_q2 (R : Ex → St → Prop) : Ex → St → Prop := Ex.inBlock 0 (a104_q1 R)
def S_unicode_utf8_DecodeLastRuneInString (k : Nat) : Prop := ∀ (x0 : (List UInt8)) (r : (Int × Int)), unicode_utf8_DecodeLastRuneInString k x0 = some r → ∀ H, Ev P 104 [(.str x0)] H (.tup [(.int .i32 r.1), (.int .i64 r.2)]) H
def S_unicode_utf8_DecodeLastRuneInString_L1 (k : Nat) : Prop := ∀ (t0 : (List UInt8)) (t4 : Int) (t5 : Int) (t6 : Int) (r : (Int × Int)) (ρ : Nat → Slot) (H : List (Option (List D))) , unicode_utf8_DecodeLastRuneInString_L1 k t0 t4 t5 t6 = some r → wpc (Ev P) (.loop a104_L1) (a104_q2 (retN a104.res (.tup [(.int .i32 r.1), (.int .i64 r.2)]))) ⟨upds ρ [(0, .d (.str t0)), (4, .d (.int .i64 t4)), (5, .d (.int .i64 t5)), (6, .d (.int .i64 t6))], H⟩
def S_unicode_utf8_DecodeLastRuneInString_J1 (k : Nat) : Prop := ∀ (t0 : (List UInt8)) (t4 : Int) (t5 : Int) (r : (Int × Int)) (ρ : Nat → Slot) (H : List (Option (List D))) , unicode_utf8_DecodeLastRuneInString_J1 k t0 t4 t5 = some r → wpc (Ev P) a104_k12 (retN a104.res (.tup [(.int .i32 r.1), (.int .i64 r.2)])) ⟨upds ρ [(0, .d (.str t0)), (4, .d (.int .i64 t4)), (5, .d (.int .i64 t5))], H⟩
def S_unicode_utf8_DecodeLastRuneInString_J2 (k : Nat) : Prop := ∀ (t0 : (List UInt8)) (t4 : Int) (t5 : Int) (r : (Int × Int)) (ρ : Nat → Slot) (H : List (Option (List D))) , unicode_utf8_DecodeLastRuneInString_J2 k t0 t4 t5 = some r → wpc (Ev P) a104_k11 (retN a104.res (.tup [(.int .i32 r.1), (.int .i64 r.2)])) ⟨upds ρ [(0, .d (.str t0)), (4, .d (.int .i64 t4)), (5, .d (.int .i64 t5))], H⟩
structure C_unicode_utf8_DecodeLastRuneInString (k : Nat) : Prop where
  unicode_utf8_DecodeLastRuneInString : S_unicode_utf8_DecodeLastRuneInString k
  unicode_utf8_DecodeLastRuneInString_L1 : S_unicode_utf8_DecodeLastRuneInString_L1 k
  unicode_utf8_DecodeLastRuneInString_J1 : S_unicode_utf8_DecodeLastRuneInString_J1 k
  unicode_utf8_DecodeLastRuneInString_J2 : S_unicode_utf8_DecodeLastRuneInString_J2 k
theorem t_unicode_utf8_DecodeLastRuneInString (k : Nat) (ih : C_unicode_utf8_DecodeLastRuneInString k) : S_unicode_utf8_DecodeLastRuneInString (k + 1) := by
  intro x0 r h H0
  rw [unicode_utf8_DecodeLastRuneInString] at h
  refine evc_intro a104 Go.Proofs.Tryd.func104 c104 (Nat.le_of_ble_eq_true rfl) (cl_cons rfl cl_nil) (by simp only [D.closed, D.closedL, Bool.and_self, closedL_mi, closedL_mb]) ?_ H0
  generalize ([] : List (Option (List D))) = H
  show wpc (Ev P) a104_B (retN a104.res (.tup [(.int .i32 r.1), (.int .i64 r.2)])) _
  refine c_seq ?_
  refine c_reg ?_
  refine o_mvk ?_
  refine o_mvk ?_
  refine o_nil ?_
  refine k_then ?_
  refine c_seq ?_
  refine c_reg ?_
  refine o_mvt rfl (copy_of_str _) ?_
  refine o_len (vt rfl (copy_of_str _)) rfl (fun _ => ?_)
  refine o_mvt rfl (copy_of_int _ _) ?_
  refine o_nil ?_
  refine k_then ?_
  refine c_seq ?_
  refine c_seq ?_
  refine c_reg ?_
  refine o_mvt rfl (copy_of_int _ _) ?_
  refine o_bin (vt rfl (copy_of_int _ _)) (vk (copy_of_int _ _)) bin_eql ?_
  refine o_nil ?_
  refine k_then ?_
  by_cases c1 : ((x0.length : Int) == 0) = true
  · have h := it_t h c1
    refine c_cond_t (vt rfl (copy_of_bool _)) c1 ?_
    refine c_seq ?_
    refine c_reg ?_
    refine o_mvk ?_
    refine o_mvk ?_
    refine o_nil ?_
    refine k_then ?_
    refine c_ret ?_
    refine k_then_ret ?_
    obtain rfl := Option.some.inj h
    exact r_many rfl (rl_cons (res_t rfl (copy_of_int _ _)) (rl_cons (res_t rfl (copy_of_int _ _)) rl_nil)) rfl
  · have c1 := bf c1
    have h := it_f h c1
    refine c_cond_f (vt rfl (copy_of_bool _)) c1 ?_
    refine c_skip ?_
    refine k_then ?_
    refine c_seq ?_
    refine c_reg ?_
    refine o_mvt rfl (copy_of_int _ _) ?_
    refine o_bin (vt rfl (copy_of_int _ _)) (vk (copy_of_int _ _)) bin_sub ?_
    refine o_mvt rfl (copy_of_int _ _) ?_
    refine o_nil ?_
    refine k_then ?_
    refine c_seq ?_
    refine c_reg ?_
    refine o_mvt rfl (copy_of_str _) ?_
    refine o_mvt rfl (copy_of_int _ _) ?_
    obtain ⟨y15, hy15, h⟩ := bind_some h
    refine o_ixs (vt rfl (copy_of_str _)) (vt rfl (copy_of_int _ _)) hy15 ?_
    refine o_cvi (vt rfl (copy_of_int _ _)) ?_
    refine o_mvt rfl (copy_of_int _ _) ?_
    refine o_nil ?_
    refine k_then ?_
    refine c_seq ?_
    refine c_seq ?_
    refine c_reg ?_
    refine o_mvt rfl (copy_of_int _ _) ?_
    refine o_bin (vt rfl (copy_of_int _ _)) (vk (copy_of_int _ _)) bin_lss ?_
    refine o_nil ?_
    refine k_then ?_
    by_cases c2 : (decide ((IntKind.i32.wrap (y15.toNat : Int)) < 128)) = true
    · have h := it_t h c2
      refine c_cond_t (vt rfl (copy_of_bool _)) c2 ?_
      refine c_seq ?_
      refine c_reg ?_
      refine o_mvt rfl (copy_of_int _ _) ?_
      refine o_mvt rfl (copy_of_int _ _) ?_
      refine o_mvk ?_
      refine o_nil ?_
      refine k_then ?_
      refine c_ret ?_
      refine k_then_ret ?_
      obtain rfl := Option.some.inj h
      exact r_many rfl (rl_cons (res_t rfl (copy_of_int _ _)) (rl_cons (res_t rfl (copy_of_int _ _)) rl_nil)) rfl
    · have c2 := bf c2
      have h := it_f h c2
      refine c_cond_f (vt rfl (copy_of_bool _)) c2 ?_
      refine c_skip ?_
      refine k_then ?_
      refine c_seq ?_
      refine c_reg ?_
      refine o_mvt rfl (copy_of_int _ _) ?_
      refine o_bin (vt rfl (copy_of_int _ _)) (vk (copy_of_int _ _)) bin_sub ?_
      refine o_minmax (v_cons (vt rfl (copy_of_int _ _)) (v_cons (vk (copy_of_int _ _)) v_nil)) mm_max2 ?_
      refine o_mvt rfl (copy_of_int _ _) ?_
      refine o_nil ?_
      refine k_then ?_
      refine c_seq ?_
      refine c_seq ?_
      refine c_reg ?_
      refine o_mvt rfl (copy_of_int _ _) ?_
      refine o_bin (vt rfl (copy_of_int _ _)) (vk (copy_of_int _ _)) bin_sub ?_
      refine o_mvt rfl (copy_of_int _ _) ?_
      refine o_nil ?_
      refine k_then ?_
      refine c_block ?_
      exact wpc_head (ih.unicode_utf8_DecodeLastRuneInString_L1 _ _ _ _ _ _ _ h) ⟨rfl, rfl, rfl, rfl, trivial⟩
theorem t_unicode_utf8_DecodeLastRuneInString_L1 (k : Nat) (ih : C_unicode_utf8_DecodeLastRuneInString k) : S_unicode_utf8_DecodeLastRuneInString_L1 (k + 1) := by
  intro t0 t4 t5 t6 r ρ H h
  rw [unicode_utf8_DecodeLastRuneInString_L1] at h
  refine wpc_loop_i ?_
  refine c_seq ?_
  refine c_seq ?_
  refine c_reg ?_
  refine o_mvt rfl (copy_of_int _ _) ?_
  refine o_mvt rfl (copy_of_int _ _) ?_
  refine o_bin (vt rfl (copy_of_int _ _)) (vt rfl (copy_of_int _ _)) bin_geq ?_
  refine o_nil ?_
  refine k_then ?_
  by_cases c1 : (decide (t5 ≥ t6)) = true
  · have h := it_t h c1
    refine c_cond_t (vt rfl (copy_of_bool _)) c1 ?_
    refine c_skip ?_
    refine k_then ?_
    refine c_seq ?_
    refine c_block ?_
    refine c_seq ?_
    refine c_reg ?_
    refine o_mvt rfl (copy_of_str _) ?_
    refine o_mvt rfl (copy_of_int _ _) ?_
    obtain ⟨y32, hy32, h⟩ := bind_some h
    refine o_ixs (vt rfl (copy_of_str _)) (vt rfl (copy_of_int _ _)) hy32 ?_
    obtain ⟨y33, hy33, h⟩ := bind_some h
    refine o_call rfl (g_cons (gt_ rfl (copy_of_int _ _)) g_nil) (s_unicode_utf8_RuneStart k _ _ hy33 _) ?_
    refine o_nil ?_
    refine k_then ?_
    by_cases c2 : y33 = true
    · have h := it_t h c2
      refine c_cond_t (vt rfl (copy_of_bool _)) c2 ?_
      refine c_exit ?_
      refine k_block_exit' (by decide) ?_
      refine k_then_exit ?_
      refine k_then_exit ?_
      refine k_block_exit _ ?_
      refine k_then ?_
      exact wpc_head (ih.unicode_utf8_DecodeLastRuneInString_J1 _ _ _ _ _ _ h) ⟨rfl, rfl, rfl, trivial⟩
    · have c2 := bf c2
      have h := it_f h c2
      refine c_cond_f (vt rfl (copy_of_bool _)) c2 ?_
      refine c_skip ?_
      refine k_block _ ?_
      refine k_then ?_
      refine c_reg ?_
      refine o_mvt rfl (copy_of_int _ _) ?_
      refine o_bin (vt rfl (copy_of_int _ _)) (vk (copy_of_int _ _)) bin_sub ?_
      refine o_mvt rfl (copy_of_int _ _) ?_
      refine o_nil ?_
      refine k_then ?_
      exact wpc_head (ih.unicode_utf8_DecodeLastRuneInString_L1 _ _ _ _ _ _ _ h) ⟨rfl, rfl, rfl, rfl, trivial⟩
  · have c1 := bf c1
    have h := it_f h c1
    refine c_cond_f (vt rfl (copy_of_bool _)) c1 ?_
    refine c_exit ?_
    refine k_then_exit ?_
    refine k_then_exit ?_
    refine k_block_exit _ ?_
    refine k_then ?_
    exact wpc_head (ih.unicode_utf8_DecodeLastRuneInString_J1 _ _ _ _ _ _ h) ⟨rfl, rfl, rfl, trivial⟩
theorem t_unicode_utf8_DecodeLastRuneInString_J1 (k : Nat) (ih : C_unicode_utf8_DecodeLastRuneInString k) : S_unicode_utf8_DecodeLastRuneInString_J1 (k + 1) := by
  intro t0 t4 t5 r ρ H h
  rw [unicode_utf8_DecodeLastRuneInString_J1] at h
  refine c_seq ?_
  refine c_seq ?_
  refine c_reg ?_
  refine o_mvt rfl (copy_of_int _ _) ?_
  refine o_bin (vt rfl (copy_of_int _ _)) (vk (copy_of_int _ _)) bin_lss ?_
  refine o_nil ?_
  refine k_then ?_
  by_cases c1 : (decide (t5 < 0)) = true
  · have h := it_t h c1
    refine c_cond_t (vt rfl (copy_of_bool _)) c1 ?_
    refine c_reg ?_
    refine o_mvk ?_
    refine o_nil ?_
    refine k_then ?_
    exact wpc_head (ih.unicode_utf8_DecodeLastRuneInString_J2 _ _ _ _ _ _ h) ⟨rfl, rfl, rfl, trivial⟩
  · have c1 := bf c1
    have h := it_f h c1
    refine c_cond_f (vt rfl (copy_of_bool _)) c1 ?_
    refine c_skip ?_
    refine k_then ?_
    exact wpc_head (ih.unicode_utf8_DecodeLastRuneInString_J2 _ _ _ _ _ _ h) ⟨rfl, rfl, rfl, trivial⟩
theorem t_unicode_utf8_DecodeLastRuneInString_J2 (k : Nat) (ih : C_unicode_utf8_DecodeLastRuneInString k) : S_unicode_utf8_DecodeLastRuneInString_J2 (k + 1) := by
  intro t0 t4 t5 r ρ H h
  rw [unicode_utf8_DecodeLastRuneInString_J2] at h
  refine c_seq ?_
  refine c_reg ?_
  refine o_mvt rfl (copy_of_str _) ?_
  refine o_mvt rfl (copy_of_int _ _) ?_
  refine o_mvt rfl (copy_of_int _ _) ?_
  obtain ⟨c1, h⟩ := need_some h
  refine o_sls_lh (vt rfl (copy_of_str _)) (vt rfl (copy_of_int _ _)) (vt rfl (copy_of_int _ _)) c1 ?_
  obtain ⟨y41, hy41, h⟩ := bind_some h
  refine o_call rfl (g_cons (gt_ rfl (copy_of_str _)) g_nil) (s_unicode_utf8_DecodeRuneInString k _ _ hy41 _) ?_
  refine o_mvt rfl (copy_of_tup _) ?_
  refine o_ext (vt rfl (copy_of_tup _)) rfl ?_
  refine o_ext (vt rfl (copy_of_tup _)) rfl ?_
  refine o_mvt rfl (copy_of_int _ _) ?_
  refine o_mvt rfl (copy_of_int _ _) ?_
  refine o_nil ?_
  refine k_then ?_
  refine c_seq ?_
  refine c_seq ?_
  refine c_reg ?_
  refine o_mvt rfl (copy_of_int _ _) ?_
  refine o_mvt rfl (copy_of_int _ _) ?_
  refine o_bin (vt rfl (copy_of_int _ _)) (vt rfl (copy_of_int _ _)) bin_add ?_
  refine o_mvt rfl (copy_of_int _ _) ?_
  refine o_bin (vt rfl (copy_of_int _ _)) (vt rfl (copy_of_int _ _)) bin_neq ?_
  refine o_nil ?_
  refine k_then ?_
  by_cases c2 : ((IntKind.i64.wrap (t5 + y41.2)) != t4) = true
  · have h := it_t h c2
    refine c_cond_t (vt rfl (copy_of_bool _)) c2 ?_
    refine c_seq ?_
    refine c_reg ?_
    refine o_mvk ?_
    refine o_mvk ?_
    refine o_nil ?_
    refine k_then ?_
    refine c_ret ?_
    refine k_then_ret ?_
    obtain rfl := Option.some.inj h
    exact r_many rfl (rl_cons (res_t rfl (copy_of_int _ _)) (rl_cons (res_t rfl (copy_of_int _ _)) rl_nil)) rfl
  · have c2 := bf c2
    have h := it_f h c2
    refine c_cond_f (vt rfl (copy_of_bool _)) c2 ?_
    refine c_skip ?_
    refine k_then ?_
    refine c_seq ?_
    refine c_reg ?_
    refine o_mvt rfl (copy_of_int _ _) ?_
    refine o_mvt rfl (copy_of_int _ _) ?_
    refine o_mvt rfl (copy_of_int _ _) ?_
    refine o_mvt rfl (copy_of_int _ _) ?_
    refine o_nil ?_
    refine k_then ?_
    refine c_ret ?_
    obtain rfl := Option.some.inj h
    exact r_many rfl (rl_cons (res_t rfl (copy_of_int _ _)) (rl_cons (res_t rfl (copy_of_int _ _)) rl_nil)) rfl
theorem z_unicode_utf8_DecodeLastRuneInString : S_unicode_utf8_DecodeLastRuneInString 0 := by
  intro x0 r h H
  rw [unicode_utf8_DecodeLastRuneInString] at h; cases h
theorem z_unicode_utf8_DecodeLastRuneInString_L1 : S_unicode_utf8_DecodeLastRuneInString_L1 0 := by
  intro t0 t4 t5 t6 r ρ H h
  rw [unicode_utf8_DecodeLastRuneInString_L1] at h; cases h
theorem z_unicode_utf8_DecodeLastRuneInString_J1 : S_unicode_utf8_DecodeLastRuneInString_J1 0 := by
  intro t0 t4 t5 r ρ H h
  rw [unicode_utf8_DecodeLastRuneInString_J1] at h; cases h
theorem z_unicode_utf8_DecodeLastRuneInString_J2 : S_unicode_utf8_DecodeLastRuneInString_J2 0 := by
  intro t0 t4 t5 r ρ H h
  rw [unicode_utf8_DecodeLastRuneInString_J2] at h; cases h
theorem C_unicode_utf8_DecodeLastRuneInString.all : ∀ k, C_unicode_utf8_DecodeLastRuneInString k
  | 0 => ⟨z_unicode_utf8_DecodeLastRuneInString, z_unicode_utf8_DecodeLastRuneInString_L1, z_unicode_utf8_DecodeLastRuneInString_J1, z_unicode_utf8_DecodeLastRuneInString_J2⟩
  | k + 1 => ⟨t_unicode_utf8_DecodeLastRuneInString k (C_unicode_utf8_DecodeLastRuneInString.all k), t_unicode_utf8_DecodeLastRuneInString_L1 k (C_unicode_utf8_DecodeLastRuneInString.all k), t_unicode_utf8_DecodeLastRuneInString_J1 k (C_unicode_utf8_DecodeLastRuneInString.all k), t_unicode_utf8_DecodeLastRuneInString_J2 k (C_unicode_utf8_DecodeLastRuneInString.all k)⟩
theorem s_unicode_utf8_DecodeLastRuneInString (k : Nat) : S_unicode_utf8_DecodeLastRuneInString k := (C_unicode_utf8_DecodeLastRuneInString.all k).unicode_utf8_DecodeLastRuneInString
def a87_r0 : List AI := [
  { dst := some 4, op := .mv (.k (.str [])) }]
def a87_r1 : List AI := [
  { dst := some 7, op := .mv (.t 0) },
  { dst := some 8, op := .len true (.t 7) },
  { dst := some 9, op := .bin .gtr (.t 8) (.k (.int .i64 0)) }]
def a87_k1 : AC := (.cond (.t 9) .skip (.exit 0))
def a87_r2 : List AI := [
  { dst := some 10, op := .mv (.t 0) },
  { dst := some 11, op := .mv (.t 0) },
  { dst := some 12, op := .len true (.t 11) },
  { dst := some 13, op := .bin .sub (.t 12) (.k (.int .i64 1)) },
  { dst := some 14, op := .ixs (.t 10) (.t 13) },
  { dst := some 15, op := .conv (.int .i32) (.t 14) },
  { dst := some 5, op := .mv (.t 15) },
  { dst := some 6, op := .mv (.k (.int .i64 1)) }]
def a87_r3 : List AI := [
  { dst := some 16, op := .mv (.t 5) },
  { dst := some 17, op := .bin .geq (.t 16) (.k (.int .i32 128)) }]
def a87_r4 : List AI := [
  { dst := some 19, op := .mv (.t 0) },
  { dst := some 20, op := .call 104 [(.t 19)] },
  { dst := some 18, op := .mv (.t 20) },
  { dst := some 21, op := .ext (.t 18) 0 },
  { dst := some 22, op := .ext (.t 18) 1 },
  { dst := some 5, op := .mv (.t 21) },
  { dst := some 6, op := .mv (.t 22) }]
def a87_k2 : AC := (.cond (.t 17) (.reg a87_r4) .skip)
def a87_r5 : List AI := [
  { dst := some 23, op := .mv (.t 1) },
  { dst := some 24, op := .mv (.t 5) },
  { dst := some 25, op := .call 103 [(.t 23), (.t 24)] },
  { dst := some 26, op := .un .not (.t 25) }]
def a87_k3 : AC := (.cond (.t 26) (.exit 0) .skip)
def a87_r6 : List AI := [
  { dst := some 27, op := .mv (.t 0) },
  { dst := some 28, op := .mv (.t 0) },
  { dst := some 29, op := .len true (.t 28) },
  { dst := some 30, op := .mv (.t 6) },
  { dst := some 31, op := .bin .sub (.t 29) (.t 30) },
  { dst := some 32, op := .sls (.t 27) none (some (.t 31)) },
  { dst := some 0, op := .mv (.t 32) }]
def a87_k4 : AC := (.seq (.seq (.reg a87_r5) a87_k3) (.reg a87_r6))
def a87_k5 : AC := (.seq (.seq (.reg a87_r3) a87_k2) a87_k4)
def a87_k6 : AC := (.block 1 (.seq (.reg a87_r2) a87_k5))
def a87_L1 : AC := (.seq (.seq (.reg a87_r1) a87_k1) a87_k6)
def a87_r7 : List AI := [
  { dst := some 33, op := .mv (.t 0) },
  { dst := some 4, op := .mv (.t 33) }]
def a87_k7 : AC := (.seq (.reg a87_r7) .ret)
def a87_k8 : AC := (.seq (.block 0 (.loop a87_L1)) a87_k7)
def a87_B : AC := (.seq (.reg a87_r0) a87_k8)
/-- strings.trimRightUnicode -/
def a87 : AF := { N := 34, V := [], body := a87_B, res := [.t 4] }
theorem c87 : chkF P a87 Go.Proofs.Tryd.f87 = true := by kernel_rfl
mutual
/-- strings.trimRightUnicode -/
def strings_trimRightUnicode (k : Nat) (x0 : (List UInt8)) (x1 : (List UInt8)) : Option (List UInt8) := match k with
  | 0 => none
  | k + 1 =>
    strings_trimRightUnicode_L1 k x0 x1
def strings_trimRightUnicode_L1 (k : Nat) (t0 : (List UInt8)) (t1 : (List UInt8)) : Option (List UInt8) := match k with
  | 0 => none
  | k + 1 =>
    if (decide ((t0.length : Int) > 0)) = true then ((at_ t0 (IntKind.i64.wrap ((t0.length : Int) - 1))).bind fun y14 =>
    if (decide ((IntKind.i32.wrap (y14.toNat : Int)) ≥ 128)) = true then ((unicode_utf8_DecodeLastRuneInString k t0).bind fun y20 =>
    strings_trimRightUnicode_J1 k t0 t1 y20.1 y20.2)
    else strings_trimRightUnicode_J1 k t0 t1 (IntKind.i32.wrap (y14.toNat : Int)) 1)
    else some t0
def strings_trimRightUnicode_J1 (k : Nat) (t0 : (List UInt8)) (t1 : (List UInt8)) (t5 : Int) (t6 : Int) : Option (List UInt8) := match k with
  | 0 => none
  | k + 1 =>
    (strings_ContainsRune k t1 t5).bind fun y25 =>
    if (!y25) = true then (some t0)
    else need ((0 : Int) ≤ (IntKind.i64.wrap ((t0.length : Int) - t6)) ∧ (IntKind.i64.wrap ((t0.length : Int) - t6)) ≤ (t0.length : Int)) <|
    strings_trimRightUnicode_L1 k (t0.take ((IntKind.i64.wrap ((t0.length : Int) - t6)) : Int).toNat) t1
end
def a87_q1 (R : Ex → St → Prop) : Ex → St → Prop := Ex.then (wpc (Ev P) a87_k7 R) R
def a87_q2 (R : Ex → St → Prop) : Ex → St → Prop := Ex.inBlock 0 (a87_q1 R)
def a87_q3 (R : Ex → St → Prop) : Ex → St → Prop := Ex.then (wpc (Ev P) (.loop a87_L1) (a87_q2 R)) (a87_q2 R)
def a87_q4 (R : Ex → St → Prop) : Ex → St → Prop := Ex.inBlock 1 (a87_q3 R)
def S_strings_trimRightUnicode (k : Nat) : Prop := ∀ (x0 : (List UInt8)) (x1 : (List UInt8)) (r : (List UInt8)), strings_trimRightUnicode k x0 x1 = some r → ∀ H, Ev P 87 [(.str x0), (.str x1)] H (.str r) H
def S_strings_trimRightUnicode_L1 (k : Nat) : Prop := ∀ (t0 : (List UInt8)) (t1 : (List UInt8)) (r : (List UInt8)) (ρ : Nat → Slot) (H : List (Option (List D))) , strings_trimRightUnicode_L1 k t0 t1 = some r → wpc (Ev P) (.loop a87_L1) (a87_q2 (retN a87.res (.str r))) ⟨upds ρ [(0, .d (.str t0)), (1, .d (.str t1))], H⟩
def S_strings_trimRightUnicode_J1 (k : Nat) : Prop := ∀ (t0 : (List UInt8)) (t1 : (List UInt8)) (t5 : Int) (t6 : Int) (r : (List UInt8)) (ρ : Nat → Slot) (H : List (Option (List D))) , strings_trimRightUnicode_J1 k t0 t1 t5 t6 = some r → wpc (Ev P) a87_k4 (a87_q4 (retN a87.res (.str r))) ⟨upds ρ [(0, .d (.str t0)), (1, .d (.str t1)), (5, .d (.int .i32 t5)), (6, .d (.int .i64 t6))], H⟩
structure C_strings_trimRightUnicode (k : Nat) : Prop where
  strings_trimRightUnicode : S_strings_trimRightUnicode k
  strings_trimRightUnicode_L1 : S_strings_trimRightUnicode_L1 k
  strings_trimRightUnicode_J1 : S_strings_trimRightUnicode_J1 k
theorem t_strings_trimRightUnicode (k : Nat) (ih : C_strings_trimRightUnicode k) : S_strings_trimRightUnicode (k + 1) := by
  intro x0 x1 r h H0
  rw [strings_trimRightUnicode] at h
  refine evc_intro a87 Go.Proofs.Tryd.func87 c87 (Nat.le_of_ble_eq_true rfl) (cl_cons rfl (cl_cons rfl cl_nil)) rfl ?_ H0
  generalize ([] : List (Option (List D))) = H
  show wpc (Ev P) a87_B (retN a87.res (.str r)) _
  refine c_seq ?_
  refine c_reg ?_
  refine o_mvk ?_
  refine o_nil ?_
  refine k_then ?_
  refine c_seq ?_
  refine c_block ?_
  exact wpc_head (ih.strings_trimRightUnicode_L1 _ _ _ _ _ h) ⟨rfl, rfl, trivial⟩
theorem t_strings_trimRightUnicode_L1 (k : Nat) (ih : C_strings_trimRightUnicode k) : S_strings_trimRightUnicode_L1 (k + 1) := by
  intro t0 t1 r ρ H h
  rw [strings_trimRightUnicode_L1] at h
  refine wpc_loop_i ?_
  refine c_seq ?_
  refine c_seq ?_
  refine c_reg ?_
  refine o_mvt rfl (copy_of_str _) ?_
  refine o_len (vt rfl (copy_of_str _)) rfl (fun _ => ?_)
  refine o_bin (vt rfl (copy_of_int _ _)) (vk (copy_of_int _ _)) bin_gtr ?_
  refine o_nil ?_
  refine k_then ?_
  by_cases c1 : (decide ((t0.length : Int) > 0)) = true
  · have h := it_t h c1
    refine c_cond_t (vt rfl (copy_of_bool _)) c1 ?_
    refine c_skip ?_
    refine k_then ?_
    refine c_block ?_
    refine c_seq ?_
    refine c_reg ?_
    refine o_mvt rfl (copy_of_str _) ?_
    refine o_mvt rfl (copy_of_str _) ?_
    refine o_len (vt rfl (copy_of_str _)) rfl (fun _ => ?_)
    refine o_bin (vt rfl (copy_of_int _ _)) (vk (copy_of_int _ _)) bin_sub ?_
    obtain ⟨y14, hy14, h⟩ := bind_some h
    refine o_ixs (vt rfl (copy_of_str _)) (vt rfl (copy_of_int _ _)) hy14 ?_
    refine o_cvi (vt rfl (copy_of_int _ _)) ?_
    refine o_mvt rfl (copy_of_int _ _) ?_
    refine o_mvk ?_
    refine o_nil ?_
    refine k_then ?_
    refine c_seq ?_
    refine c_seq ?_
    refine c_reg ?_
    refine o_mvt rfl (copy_of_int _ _) ?_
    refine o_bin (vt rfl (copy_of_int _ _)) (vk (copy_of_int _ _)) bin_geq ?_
    refine o_nil ?_
    refine k_then ?_
    by_cases c2 : (decide ((IntKind.i32.wrap (y14.toNat : Int)) ≥ 128)) = true
    · have h := it_t h c2
      refine c_cond_t (vt rfl (copy_of_bool _)) c2 ?_
      refine c_reg ?_
      refine o_mvt rfl (copy_of_str _) ?_
      obtain ⟨y20, hy20, h⟩ := bind_some h
      refine o_call rfl (g_cons (gt_ rfl (copy_of_str _)) g_nil) (s_unicode_utf8_DecodeLastRuneInString k _ _ hy20 _) ?_
      refine o_mvt rfl (copy_of_tup _) ?_
      refine o_ext (vt rfl (copy_of_tup _)) rfl ?_
      refine o_ext (vt rfl (copy_of_tup _)) rfl ?_
      refine o_mvt rfl (copy_of_int _ _) ?_
      refine o_mvt rfl (copy_of_int _ _) ?_
      refine o_nil ?_
      refine k_then ?_
      exact wpc_head (ih.strings_trimRightUnicode_J1 _ _ _ _ _ _ _ h) ⟨rfl, rfl, rfl, rfl, trivial⟩
    · have c2 := bf c2
      have h := it_f h c2
      refine c_cond_f (vt rfl (copy_of_bool _)) c2 ?_
      refine c_skip ?_
      refine k_then ?_
      exact wpc_head (ih.strings_trimRightUnicode_J1 _ _ _ _ _ _ _ h) ⟨rfl, rfl, rfl, rfl, trivial⟩
  · have c1 := bf c1
    have h := it_f h c1
    refine c_cond_f (vt rfl (copy_of_bool _)) c1 ?_
    refine c_exit ?_
    refine k_then_exit ?_
    refine k_then_exit ?_
    refine k_block_exit _ ?_
    refine k_then ?_
    refine c_seq ?_
    refine c_reg ?_
    refine o_mvt rfl (copy_of_str _) ?_
    refine o_mvt rfl (copy_of_str _) ?_
    refine o_nil ?_
    refine k_then ?_
    refine c_ret ?_
    obtain rfl := Option.some.inj h
    exact r_one rfl (res_t rfl (copy_of_str _)) (.inl rfl)
theorem t_strings_trimRightUnicode_J1 (k : Nat) (ih : C_strings_trimRightUnicode k) : S_strings_trimRightUnicode_J1 (k + 1) := by
  intro t0 t1 t5 t6 r ρ H h
  rw [strings_trimRightUnicode_J1] at h
  refine c_seq ?_
  refine c_seq ?_
  refine c_reg ?_
  refine o_mvt rfl (copy_of_str _) ?_
  refine o_mvt rfl (copy_of_int _ _) ?_
  obtain ⟨y25, hy25, h⟩ := bind_some h
  refine o_call rfl (g_cons (gt_ rfl (copy_of_str _)) (g_cons (gt_ rfl (copy_of_int _ _)) g_nil)) (s_strings_ContainsRune k _ _ _ hy25 _) ?_
  refine o_un (vt rfl (copy_of_bool _)) un_not ?_
  refine o_nil ?_
  refine k_then ?_
  by_cases c1 : (!y25) = true
  · have h := it_t h c1
    refine c_cond_t (vt rfl (copy_of_bool _)) c1 ?_
    refine c_exit ?_
    refine k_then_exit ?_
    refine k_block_exit' (by decide) ?_
    refine k_then_exit ?_
    refine k_block_exit _ ?_
    refine k_then ?_
    refine c_seq ?_
    refine c_reg ?_
    refine o_mvt rfl (copy_of_str _) ?_
    refine o_mvt rfl (copy_of_str _) ?_
    refine o_nil ?_
    refine k_then ?_
    refine c_ret ?_
    obtain rfl := Option.some.inj h
    exact r_one rfl (res_t rfl (copy_of_str _)) (.inl rfl)
  · have c1 := bf c1
    have h := it_f h c1
    refine c_cond_f (vt rfl (copy_of_bool _)) c1 ?_
    refine c_skip ?_
    refine k_then ?_
    refine c_reg ?_
    refine o_mvt rfl (copy_of_str _) ?_
    refine o_mvt rfl (copy_of_str _) ?_
    refine o_len (vt rfl (copy_of_str _)) rfl (fun _ => ?_)
    refine o_mvt rfl (copy_of_int _ _) ?_
    refine o_bin (vt rfl (copy_of_int _ _)) (vt rfl (copy_of_int _ _)) bin_sub ?_
    obtain ⟨c2, h⟩ := need_some h
    refine o_sls_h (vt rfl (copy_of_str _)) (vt rfl (copy_of_int _ _)) c2 ?_
    refine o_mvt rfl (copy_of_str _) ?_
    refine o_nil ?_
    refine k_block _ ?_
    refine k_then ?_
    exact wpc_head (ih.strings_trimRightUnicode_L1 _ _ _ _ _ h) ⟨rfl, rfl, trivial⟩
theorem z_strings_trimRightUnicode : S_strings_trimRightUnicode 0 := by
  intro x0 x1 r h H
  rw [strings_trimRightUnicode] at h; cases h
theorem z_strings_trimRightUnicode_L1 : S_strings_trimRightUnicode_L1 0 := by
  intro t0 t1 r ρ H h
  rw [strings_trimRightUnicode_L1] at h; cases h
theorem z_strings_trimRightUnicode_J1 : S_strings_trimRightUnicode_J1 0 := by
  intro t0 t1 t5 t6 r ρ H h
  rw [strings_trimRightUnicode_J1] at h; cases h
theorem C_strings_trimRightUnicode.all : ∀ k, C_strings_trimRightUnicode k
  | 0 => ⟨z_strings_trimRightUnicode, z_strings_trimRightUnicode_L1, z_strings_trimRightUnicode_J1⟩
  | k + 1 => ⟨t_strings_trimRightUnicode k (C_strings_trimRightUnicode.all k), t_strings_trimRightUnicode_L1 k (C_strings_trimRightUnicode.all k), t_strings_trimRightUnicode_J1 k (C_strings_trimRightUnicode.all k)⟩
theorem s_strings_trimRightUnicode (k : Nat) : S_strings_trimRightUnicode k := (C_strings_trimRightUnicode.all k).strings_trimRightUnicode
def a59_r0 : List AI := [
  { dst := some 4, op := .mv (.k (.str [])) }]
def a59_r1 : List AI := [
  { dst := some 7, op := .mv (.t 0) },
  { dst := some 8, op := .bin .eql (.t 7) (.k (.str [])) },
  { dst := some 9, op := .mv (.t 8) },
  { dst := some 10, g := some (9, false), op := .mv (.t 1) },
  { dst := some 11, g := some (9, false), op := .bin .eql (.t 10) (.k (.str [])) },
  { dst := some 12, op := .pick (.t 9) (.k (.bool true)) (.t 11) }]
def a59_r2 : List AI := [
  { dst := some 13, op := .mv (.t 0) },
  { dst := some 4, op := .mv (.t 13) }]
def a59_k1 : AC := (.cond (.t 12) (.seq (.reg a59_r2) .ret) .skip)
def a59_r3 : List AI := [
  { dst := some 14, op := .mv (.t 1) },
  { dst := some 15, op := .len true (.t 14) },
  { dst := some 16, op := .bin .eql (.t 15) (.k (.int .i64 1)) },
  { dst := some 17, op := .mv (.t 16) },
  { dst := some 18, g := some (17, true), op := .mv (.t 1) },
  { dst := some 19, g := some (17, true), op := .ixs (.t 18) (.k (.int .i64 0)) },
  { dst := some 20, g := some (17, true), op := .bin .lss (.t 19) (.k (.int .u8 128)) },
  { dst := some 21, op := .pick (.t 17) (.t 20) (.k (.bool false)) }]
def a59_r4 : List AI := [
  { dst := some 22, op := .mv (.t 0) },
  { dst := some 23, op := .mv (.t 1) },
  { dst := some 24, op := .ixs (.t 23) (.k (.int .i64 0)) },
  { dst := some 25, op := .callQ 82 [(.t 22), (.t 24)] },
  { dst := some 26, op := .mv (.t 1) },
  { dst := some 27, op := .ixs (.t 26) (.k (.int .i64 0)) },
  { dst := some 28, op := .callQ 81 [(.t 25), (.t 27)] },
  { dst := some 4, op := .mv (.t 28) }]
def a59_k2 : AC := (.cond (.t 21) (.seq (.reg a59_r4) .ret) .skip)
def a59_r5 : List AI := [
  { dst := some 30, op := .mv (.t 1) },
  { dst := some 31, op := .call 83 [(.t 30)] },
  { dst := some 29, op := .mv (.t 31) },
  { dst := some 32, op := .ext (.t 29) 0 },
  { dst := some 33, op := .ext (.t 29) 1 },
  { dst := some 5, op := .allocH (List.replicate 256 (.bool false)) },
  { dst := none, op := .st 256 5 (.t 32) },
  { dst := some 6, op := .mv (.t 33) }]
def a59_r6 : List AI := [
  { dst := some 34, op := .mv (.t 6) }]
def a59_r7 : List AI := [
  { dst := some 35, op := .mv (.t 0) },
  { dst := some 36, op := .call 85 [(.t 35), (.t 5)] },
  { dst := some 37, op := .call 84 [(.t 36), (.t 5)] },
  { dst := some 4, op := .mv (.t 37) }]
def a59_k3 : AC := (.cond (.t 34) (.seq (.reg a59_r7) .ret) .skip)
def a59_k4 : AC := (.seq (.reg a59_r6) a59_k3)
def a59_r8 : List AI := [
  { dst := some 38, op := .mv (.t 0) },
  { dst := some 39, op := .mv (.t 1) },
  { dst := some 40, op := .call 87 [(.t 38), (.t 39)] },
  { dst := some 41, op := .mv (.t 1) },
  { dst := some 42, op := .call 86 [(.t 40), (.t 41)] },
  { dst := some 4, op := .mv (.t 42) }]
def a59_k5 : AC := (.seq (.reg a59_r8) .ret)
def a59_k6 : AC := (.seq (.seq (.reg a59_r5) a59_k4) a59_k5)
def a59_k7 : AC := (.seq (.seq (.reg a59_r3) a59_k2) a59_k6)
def a59_k8 : AC := (.seq (.seq (.reg a59_r1) a59_k1) a59_k7)
def a59_B : AC := (.seq (.reg a59_r0) a59_k8)
/-- strings.Trim -/
def a59 : AF := { N := 43, V := [], body := a59_B, res := [.t 4] }
theorem c59 : chkF P a59 Go.Proofs.Tryd.f59 = true := by kernel_rfl
mutual
/-- strings.Trim -/
def strings_Trim (k : Nat) (x0 : (List UInt8)) (x1 : (List UInt8)) : Option (List UInt8) := match k with
  | 0 => none
  | k + 1 =>
    if ((x0 == ([] : List UInt8)) || (x1 == ([] : List UInt8))) = true then (some x0)
    else if ((x1.length : Int) == 1) = true then ((at_ x1 0).bind fun y19 =>
    strings_Trim_J1 k x0 x1 (decide ((y19.toNat : Int) < 128)))
    else strings_Trim_J1 k x0 x1 false
def strings_Trim_J1 (k : Nat) (t0 : (List UInt8)) (t1 : (List UInt8)) (t21 : Bool) : Option (List UInt8) := match k with
  | 0 => none
  | k + 1 =>
    if t21 = true then ((at_ t1 0).bind fun y24 =>
    (strings_trimRightByte k t0 (y24.toNat : Int)).bind fun y25 =>
    (at_ t1 0).bind fun y27 =>
    (strings_trimLeftByte k y25 (y27.toNat : Int)).bind fun y28 =>
    some y28)
    else (strings_makeASCIISet k t1).bind fun y31 =>
    if y31.2 = true then ((strings_trimRightASCII k t0 y31.1).bind fun y36 =>
    (strings_trimLeftASCII k y36 y31.1).bind fun y37 =>
    some y37)
    else (strings_trimRightUnicode k t0 t1).bind fun y40 =>
    (strings_trimLeftUnicode k y40 t1).bind fun y42 =>
    some y42
end
def a59_q1 (R : Ex → St → Prop) : Ex → St → Prop := Ex.then (wpc (Ev P) a59_k7 R) R
def a59_q2 (R : Ex → St → Prop) : Ex → St → Prop := Ex.then (wpc (Ev P) a59_k1 (a59_q1 R)) (a59_q1 R)
def a59_q3 (R : Ex → St → Prop) : Ex → St → Prop := Ex.then (wpc (Ev P) a59_k6 R) R
def S_strings_Trim (k : Nat) : Prop := ∀ (x0 : (List UInt8)) (x1 : (List UInt8)) (r : (List UInt8)), strings_Trim k x0 x1 = some r → ∀ H, Ev P 59 [(.str x0), (.str x1)] H (.str r) H
def S_strings_Trim_J1 (k : Nat) : Prop := ∀ (t0 : (List UInt8)) (t1 : (List UInt8)) (t21 : Bool) (r : (List UInt8)) (ρ : Nat → Slot) (H : List (Option (List D))) , strings_Trim_J1 k t0 t1 t21 = some r → wpc (Ev P) a59_k2 (a59_q3 (retN a59.res (.str r))) ⟨upds ρ [(0, .d (.str t0)), (1, .d (.str t1)), (21, .d (.bool t21))], H⟩
structure C_strings_Trim (k : Nat) : Prop where
  strings_Trim : S_strings_Trim k
  strings_Trim_J1 : S_strings_Trim_J1 k
theorem t_strings_Trim (k : Nat) (ih : C_strings_Trim k) : S_strings_Trim (k + 1) := by
  intro x0 x1 r h H0
  rw [strings_Trim] at h
  refine evc_intro a59 Go.Proofs.Tryd.func59 c59 (Nat.le_of_ble_eq_true rfl) (cl_cons rfl (cl_cons rfl cl_nil)) rfl ?_ H0
  generalize ([] : List (Option (List D))) = H
  show wpc (Ev P) a59_B (retN a59.res (.str r)) _
  refine c_seq ?_
  refine c_reg ?_
  refine o_mvk ?_
  refine o_nil ?_
  refine k_then ?_
  refine c_seq ?_
  refine c_seq ?_
  refine c_reg ?_
  refine o_mvt rfl (copy_of_str _) ?_
  refine o_bin (vt rfl (copy_of_str _)) (vk (copy_of_str _)) bin_seql ?_
  refine o_mvt rfl (copy_of_bool _) ?_
  have key1 : ∀ ρ : Nat → Slot, wpo (Ev P) (a59_r1.drop 6) ((a59_q2 (retN a59.res (.str r))) .normal) ⟨upds ρ [(0, .d (.str x0)), (1, .d (.str x1)), (12, .d (.bool ((x0 == ([] : List UInt8)) || (x1 == ([] : List UInt8)))))], H⟩ := by
    intro ρ
    refine o_nil ?_
    refine k_then ?_
    by_cases c3 : ((x0 == ([] : List UInt8)) || (x1 == ([] : List UInt8))) = true
    · have h := it_t h c3
      refine c_cond_t (vt rfl (copy_of_bool _)) c3 ?_
      refine c_seq ?_
      refine c_reg ?_
      refine o_mvt rfl (copy_of_str _) ?_
      refine o_mvt rfl (copy_of_str _) ?_
      refine o_nil ?_
      refine k_then ?_
      refine c_ret ?_
      refine k_then_ret ?_
      obtain rfl := Option.some.inj h
      exact r_one rfl (res_t rfl (copy_of_str _)) (.inl rfl)
    · have c3 := bf c3
      have h := it_f h c3
      refine c_cond_f (vt rfl (copy_of_bool _)) c3 ?_
      refine c_skip ?_
      refine k_then ?_
      refine c_seq ?_
      refine c_seq ?_
      refine c_reg ?_
      refine o_mvt rfl (copy_of_str _) ?_
      refine o_len (vt rfl (copy_of_str _)) rfl (fun _ => ?_)
      refine o_bin (vt rfl (copy_of_int _ _)) (vk (copy_of_int _ _)) bin_eql ?_
      refine o_mvt rfl (copy_of_bool _) ?_
      by_cases c4 : ((x1.length : Int) == 1) = true
      · have h := it_t h c4
        refine o_g_t rfl c4 ?_
        refine o_mvt rfl (copy_of_str _) ?_
        refine o_g_t rfl c4 ?_
        obtain ⟨y19, hy19, h⟩ := bind_some h
        refine o_ixs (vt rfl (copy_of_str _)) (vk (copy_of_int _ _)) hy19 ?_
        refine o_g_t rfl c4 ?_
        refine o_bin (vt rfl (copy_of_int _ _)) (vk (copy_of_int _ _)) bin_lss ?_
        refine o_pick_t (vt rfl (copy_of_bool _)) c4 (vt rfl (copy_of_bool _)) ?_
        refine o_nil ?_
        refine k_then ?_
        exact wpc_head (ih.strings_Trim_J1 _ _ _ _ _ _ h) ⟨rfl, rfl, rfl, trivial⟩
      · have c4 := bf c4
        have h := it_f h c4
        refine o_g_f rfl (ne_f c4) ?_
        refine o_g_f rfl (ne_f c4) ?_
        refine o_g_f rfl (ne_f c4) ?_
        refine o_pick_f (vt rfl (copy_of_bool _)) c4 (vk (copy_of_bool _)) ?_
        refine o_nil ?_
        refine k_then ?_
        exact wpc_head (ih.strings_Trim_J1 _ _ _ _ _ _ h) ⟨rfl, rfl, rfl, trivial⟩
  by_cases c2 : (x0 == ([] : List UInt8)) = true
  · clear h
    refine o_g_f rfl (ne_t c2) ?_
    refine o_g_f rfl (ne_t c2) ?_
    refine o_pick_t (vt rfl (copy_of_bool _)) c2 (vk (copy_of_bool _)) ?_
    exact wpo_head (key1 _) ⟨rfl, rfl, (by simp only [c2]; rfl), trivial⟩
  · clear h
    have c2 := bf c2
    refine o_g_t rfl c2 ?_
    refine o_mvt rfl (copy_of_str _) ?_
    refine o_g_t rfl c2 ?_
    refine o_bin (vt rfl (copy_of_str _)) (vk (copy_of_str _)) bin_seql ?_
    refine o_pick_f (vt rfl (copy_of_bool _)) c2 (vt rfl (copy_of_bool _)) ?_
    exact wpo_head (key1 _) ⟨rfl, rfl, (by simp only [c2]; rfl), trivial⟩
theorem t_strings_Trim_J1 (k : Nat) (ih : C_strings_Trim k) : S_strings_Trim_J1 (k + 1) := by
  intro t0 t1 t21 r ρ H h
  rw [strings_Trim_J1] at h
  by_cases c1 : t21 = true
  · have h := it_t h c1
    refine c_cond_t (vt rfl (copy_of_bool _)) c1 ?_
    refine c_seq ?_
    refine c_reg ?_
    refine o_mvt rfl (copy_of_str _) ?_
    refine o_mvt rfl (copy_of_str _) ?_
    obtain ⟨y24, hy24, h⟩ := bind_some h
    refine o_ixs (vt rfl (copy_of_str _)) (vk (copy_of_int _ _)) hy24 ?_
    obtain ⟨y25, hy25, h⟩ := bind_some h
    refine o_callq (g_cons (gt_ rfl (copy_of_str _)) (g_cons (gt_ rfl (copy_of_int _ _)) g_nil)) (s_strings_trimRightByte k _ _ _ hy25 _) ?_
    refine o_mvt rfl (copy_of_str _) ?_
    obtain ⟨y27, hy27, h⟩ := bind_some h
    refine o_ixs (vt rfl (copy_of_str _)) (vk (copy_of_int _ _)) hy27 ?_
    obtain ⟨y28, hy28, h⟩ := bind_some h
    refine o_callq (g_cons (gt_ rfl (copy_of_str _)) (g_cons (gt_ rfl (copy_of_int _ _)) g_nil)) (s_strings_trimLeftByte k _ _ _ hy28 _) ?_
    refine o_mvt rfl (copy_of_str _) ?_
    refine o_nil ?_
    refine k_then ?_
    refine c_ret ?_
    refine k_then_ret ?_
    obtain rfl := Option.some.inj h
    exact r_one rfl (res_t rfl (copy_of_str _)) (.inl rfl)
  · have c1 := bf c1
    have h := it_f h c1
    refine c_cond_f (vt rfl (copy_of_bool _)) c1 ?_
    refine c_skip ?_
    refine k_then ?_
    refine c_seq ?_
    refine c_seq ?_
    refine c_reg ?_
    refine o_mvt rfl (copy_of_str _) ?_
    obtain ⟨y31, hy31, h⟩ := bind_some h
    refine o_call rfl (g_cons (gt_ rfl (copy_of_str _)) g_nil) (s_strings_makeASCIISet k _ _ hy31 _) ?_
    refine o_mvt rfl (copy_of_tup _) ?_
    refine o_ext (vt rfl (copy_of_tup _)) rfl ?_
    refine o_ext (vt rfl (copy_of_tup _)) rfl ?_
    refine o_alloch' (cs := (Arr.rep 256 false).l.map D.bool) (by simp [Arr.rep, lw, ow]) (fun b5 H hb5 keep => ?_)
    clear keep
    refine o_sto' rfl rfl (gt_ rfl (copy_of_agg _)) (cells_of_agg _) len_arr om_bool hb5 (splice_all (n := 256) len_arr len_arr) (fun H hb5 keep => ?_)
    clear keep
    refine o_mvt rfl (copy_of_bool _) ?_
    refine o_nil ?_
    refine k_then ?_
    refine c_seq ?_
    refine c_reg ?_
    refine o_mvt rfl (copy_of_bool _) ?_
    refine o_nil ?_
    refine k_then ?_
    by_cases c2 : y31.2 = true
    · have h := it_t h c2
      refine c_cond_t (vt rfl (copy_of_bool _)) c2 ?_
      refine c_seq ?_
      refine c_reg ?_
      refine o_mvt rfl (copy_of_str _) ?_
      obtain ⟨y36, hy36, h⟩ := bind_some h
      refine o_call rfl (g_cons (gt_ rfl (copy_of_str _)) (g_cons (gt_ rfl (copy_of_ptr _ _)) g_nil)) (s_strings_trimRightASCII k _ _ _ _ hb5 _ hy36) ?_
      obtain ⟨y37, hy37, h⟩ := bind_some h
      refine o_call rfl (g_cons (gt_ rfl (copy_of_str _)) (g_cons (gt_ rfl (copy_of_ptr _ _)) g_nil)) (s_strings_trimLeftASCII k _ _ _ _ hb5 _ hy37) ?_
      refine o_mvt rfl (copy_of_str _) ?_
      refine o_nil ?_
      refine k_then ?_
      refine c_ret ?_
      refine k_then_ret ?_
      obtain rfl := Option.some.inj h
      exact r_one rfl (res_t rfl (copy_of_str _)) (.inl rfl)
    · have c2 := bf c2
      have h := it_f h c2
      refine c_cond_f (vt rfl (copy_of_bool _)) c2 ?_
      refine c_skip ?_
      refine k_then ?_
      refine c_seq ?_
      refine c_reg ?_
      refine o_mvt rfl (copy_of_str _) ?_
      refine o_mvt rfl (copy_of_str _) ?_
      obtain ⟨y40, hy40, h⟩ := bind_some h
      refine o_call rfl (g_cons (gt_ rfl (copy_of_str _)) (g_cons (gt_ rfl (copy_of_str _)) g_nil)) (s_strings_trimRightUnicode k _ _ _ hy40 _) ?_
      refine o_mvt rfl (copy_of_str _) ?_
      obtain ⟨y42, hy42, h⟩ := bind_some h
      refine o_call rfl (g_cons (gt_ rfl (copy_of_str _)) (g_cons (gt_ rfl (copy_of_str _)) g_nil)) (s_strings_trimLeftUnicode k _ _ _ hy42 _) ?_
      refine o_mvt rfl (copy_of_str _) ?_
      refine o_nil ?_
      refine k_then ?_
      refine c_ret ?_
      obtain rfl := Option.some.inj h
      exact r_one rfl (res_t rfl (copy_of_str _)) (.inl rfl)
theorem z_strings_Trim : S_strings_Trim 0 := by
  intro x0 x1 r h H
  rw [strings_Trim] at h; cases h
theorem z_strings_Trim_J1 : S_strings_Trim_J1 0 := by
  intro t0 t1 t21 r ρ H h
  rw [strings_Trim_J1] at h; cases h
theorem C_strings_Trim.all : ∀ k, C_strings_Trim k
  | 0 => ⟨z_strings_Trim, z_strings_Trim_J1⟩
  | k + 1 => ⟨t_strings_Trim k (C_strings_Trim.all k), t_strings_Trim_J1 k (C_strings_Trim.all k)⟩
theorem s_strings_Trim (k : Nat) : S_strings_Trim k := (C_strings_Trim.all k).strings_Trim
def a32_r0 : List AI := [
  { dst := some 2, op := .box (.t 0) },
  { dst := some 3, op := .boxH (.t 1) },
  { dst := some 4, op := .mv (.k (.bool false)) }]
def a32_r1 : List AI := [
  { dst := some 6, op := .ld none 3 },
  { dst := some 7, op := .bin .lss (.t 6) (.k (.int .i64 1)) },
  { dst := some 8, op := .mv (.t 7) },
  { dst := some 9, g := some (8, false), op := .fa 2 1 },
  { dst := some 10, g := some (8, false), op := .ld none 9 },
  { dst := some 11, g := some (8, false), op := .call 59 [(.t 10), (.k (.str [48, 49]))] },
  { dst := some 12, g := some (8, false), op := .bin .neq (.t 11) (.k (.str [])) },
  { dst := some 13, op := .pick (.t 8) (.k (.bool true)) (.t 12) },
  { dst := some 14, op := .mv (.t 13) },
  { dst := some 15, g := some (14, false), op := .fa 2 0 },
  { dst := some 16, g := some (14, false), op := .ld none 15 },
  { dst := some 17, g := some (14, false), op := .bin .neq (.t 16) (.k (.int .i64 2)) },
  { dst := some 18, g := some (14, false), op := .mv (.t 17) },
  { dst := some 19, g := some (18, true), op := .fa 2 2 },
  { dst := some 20, g := some (18, true), op := .ld (some 4) 19 },
  { dst := some 21, g := some (18, true), op := .build [.int .u64 0, .int .u64 0, .int .u64 0, .int .u64 0] [] },
  { dst := some 22, g := some (18, true), op := .eqv true .int 4 (.t 20) (.t 21) },
  { dst := some 23, g := some (14, false), op := .pick (.t 18) (.t 22) (.k (.bool false)) },
  { dst := some 24, op := .pick (.t 14) (.k (.bool true)) (.t 23) }]
def a32_r2 : List AI := [
  { dst := some 4, op := .mv (.k (.bool false)) }]
def a32_k1 : AC := (.cond (.t 24) (.seq (.reg a32_r2) .ret) .skip)
def a32_r3 : List AI := [
  { dst := some 5, op := .mv (.k (.int .i64 0)) }]
def a32_r4 : List AI := [
  { dst := some 25, op := .fa 2 0 },
  { dst := some 26, op := .ld none 25 }]
def a32_r6 : List AI := [
  { dst := some 28, op := .bin .eql (.t 26) (.k (.int .i64 0)) },
  { dst := some 27, op := .mv (.t 28) }]
def a32_r7 : List AI := [
  { dst := some 29, op := .fa 2 1 },
  { dst := some 30, op := .ld none 29 },
  { dst := some 31, op := .bin .neq (.t 30) (.k (.str [])) }]
def a32_r8 : List AI := [
  { dst := some 4, op := .mv (.k (.bool false)) }]
def a32_k2 : AC := (.cond (.t 31) (.seq (.reg a32_r8) .ret) .skip)
def a32_r9 : List AI := [
  { dst := some 33, op := .bin .eql (.t 26) (.k (.int .i64 1)) },
  { dst := some 32, op := .mv (.t 33) }]
def a32_r10 : List AI := [
  { dst := some 34, op := .bin .eql (.t 26) (.k (.int .i64 2)) },
  { dst := some 32, op := .mv (.t 34) }]
def a32_k3 : AC := (.cond (.t 32) .skip (.reg a32_r10))
def a32_r11 : List AI := [
  { dst := some 36, op := .bin .eql (.t 26) (.k (.int .i64 3)) },
  { dst := some 35, op := .mv (.t 36) }]
def a32_r12 : List AI := [
  { dst := some 5, op := .mv (.k (.int .i64 2)) }]
def a32_r13 : List AI := [
  { dst := some 38, op := .bin .eql (.t 26) (.k (.int .i64 4)) },
  { dst := some 37, op := .mv (.t 38) }]
def a32_r14 : List AI := [
  { dst := some 39, op := .fa 2 6 },
  { dst := some 40, op := .ld none 39 },
  { dst := some 41, op := .len false (.t 40) },
  { dst := some 5, op := .mv (.t 41) }]
def a32_r15 : List AI := [
  { dst := some 43, op := .bin .eql (.t 26) (.k (.int .i64 5)) },
  { dst := some 42, op := .mv (.t 43) }]
def a32_r16 : List AI := [
  { dst := some 5, op := .mv (.k (.int .i64 1)) }]
def a32_r5 : List AI := [
  { dst := some 4, op := .mv (.k (.bool false)) }]
def a32_k4 : AC := (.cond (.t 42) (.reg a32_r16) (.seq (.reg a32_r5) .ret))
def a32_k5 : AC := (.cond (.t 37) (.reg a32_r14) (.seq (.reg a32_r15) a32_k4))
def a32_k6 : AC := (.cond (.t 35) (.reg a32_r12) (.seq (.reg a32_r13) a32_k5))
def a32_k7 : AC := (.cond (.t 32) .skip (.seq (.reg a32_r11) a32_k6))
def a32_k8 : AC := (.cond (.t 27) (.seq (.reg a32_r7) a32_k2) (.seq (.seq (.reg a32_r9) a32_k3) a32_k7))
def a32_k9 : AC := (.block 0 (.seq (.reg a32_r6) a32_k8))
def a32_r17 : List AI := [
  { dst := some 44, op := .fa 2 6 },
  { dst := some 45, op := .ld none 44 },
  { dst := some 46, op := .len false (.t 45) },
  { dst := some 47, op := .mv (.t 5) },
  { dst := some 48, op := .bin .eql (.t 46) (.t 47) },
  { dst := some 49, op := .mv (.t 48) },
  { dst := some 50, g := some (49, true), op := .fa 2 6 },
  { dst := some 51, g := some (49, true), op := .ld none 50 },
  { dst := some 52, g := some (49, true), op := .mkf 60 [(.t 3)] },
  { dst := some 53, g := some (49, true), op := .call 36 [(.t 51), (.t 52)] },
  { dst := some 54, g := some (49, true), op := .un .not (.t 53) },
  { dst := some 55, op := .pick (.t 49) (.t 54) (.k (.bool false)) },
  { dst := some 4, op := .mv (.t 55) }]
def a32_k10 : AC := (.seq (.reg a32_r17) .ret)
def a32_k11 : AC := (.seq (.seq (.reg a32_r4) a32_k9) a32_k10)
def a32_k12 : AC := (.seq (.reg a32_r3) a32_k11)
def a32_k13 : AC := (.seq (.seq (.reg a32_r1) a32_k1) a32_k12)
def a32_B : AC := (.seq (.reg a32_r0) a32_k13)
/-- catchpole/coded.good -/
def a32 : AF := { N := 56, V := [2], body := a32_B, res := [.t 4] }
theorem c32 : chkF P a32 Go.Proofs.Tryd.f32 = true := by kernel_rfl
def a60_r0 : List AI := [
  { dst := some 2, op := .box (.t 0) },
  { dst := some 3, op := .mv (.k (.bool false)) }]
def a60_r1 : List AI := [
  { dst := some 4, op := .ld (some 7) 2 },
  { dst := some 5, op := .ld none 1 },
  { dst := some 6, op := .bin .sub (.t 5) (.k (.int .i64 1)) },
  { dst := some 7, op := .call 32 [(.t 4), (.t 6)] },
  { dst := some 8, op := .un .not (.t 7) },
  { dst := some 3, op := .mv (.t 8) }]
def a60_k1 : AC := (.seq (.reg a60_r1) .ret)
def a60_B : AC := (.seq (.reg a60_r0) a60_k1)
/-- catchpole/coded.good$1 -/
def a60 : AF := { N := 9, V := [2], body := a60_B, res := [.t 3] }
theorem c60 : chkF P a60 Go.Proofs.Tryd.f60 = true := by kernel_rfl
mutual
/-- catchpole/coded.good -/
def coded_good (k : Nat) (x0 : T_coded_Coded) (x1 : Int) : Option Bool := match k with
  | 0 => none
  | k + 1 =>
    if (decide (x1 < 1)) = true then (coded_good_J1 k x0 true x1)
    else (strings_Trim k x0.Bits ([48, 49] : List UInt8)).bind fun y11 =>
    coded_good_J1 k x0 (!(y11 == ([] : List UInt8))) x1
def coded_good_J1 (k : Nat) (v2 : T_coded_Coded) (t13 : Bool) (o3 : Int) : Option Bool := match k with
  | 0 => none
  | k + 1 =>
    if (t13 || ((v2.Kind != 2) && (!(v2.Set == (Arr.rep 4 0))))) = true then (some false)
    else if (v2.Kind == 0) = true then (if (!(v2.Bits == ([] : List UInt8))) = true then (some false)
    else if ((v2.L.length : Int) == 0) = true then ((slices_ContainsFunc_Lcoded_Coded_coded_Coded k v2.L (fun a0 => coded_good_c1 k a0 o3)).bind fun y53 =>
    some (!y53))
    else some false)
    else if (v2.Kind == 1) = true then (coded_good_J2 k v2 0 v2.Kind (v2.Kind == 1) o3)
    else coded_good_J2 k v2 0 v2.Kind (v2.Kind == 2) o3
def coded_good_J2 (k : Nat) (v2 : T_coded_Coded) (t5 : Int) (t26 : Int) (t32 : Bool) (o3 : Int) : Option Bool := match k with
  | 0 => none
  | k + 1 =>
    if t32 = true then (if ((v2.L.length : Int) == t5) = true then ((slices_ContainsFunc_Lcoded_Coded_coded_Coded k v2.L (fun a0 => coded_good_c1 k a0 o3)).bind fun y53 =>
    some (!y53))
    else some false)
    else if (t26 == 3) = true then (if ((v2.L.length : Int) == 2) = true then ((slices_ContainsFunc_Lcoded_Coded_coded_Coded k v2.L (fun a0 => coded_good_c1 k a0 o3)).bind fun y53 =>
    some (!y53))
    else some false)
    else if (t26 == 4) = true then (if ((v2.L.length : Int) == (v2.L.length : Int)) = true then ((slices_ContainsFunc_Lcoded_Coded_coded_Coded k v2.L (fun a0 => coded_good_c1 k a0 o3)).bind fun y53 =>
    some (!y53))
    else some false)
    else if (t26 == 5) = true then (if ((v2.L.length : Int) == 1) = true then ((slices_ContainsFunc_Lcoded_Coded_coded_Coded k v2.L (fun a0 => coded_good_c1 k a0 o3)).bind fun y53 =>
    some (!y53))
    else some false)
    else some false
/-- catchpole/coded.good$1 -/
def coded_good_c1 (k : Nat) (x0 : T_coded_Coded) (o1 : Int) : Option Bool := match k with
  | 0 => none
  | k + 1 =>
    (coded_good k x0 (IntKind.i64.wrap (o1 - 1))).bind fun y7 =>
    some (!y7)
end
def a32_q1 (R : Ex → St → Prop) : Ex → St → Prop := Ex.then (wpc (Ev P) a32_k12 R) R
def a32_q2 (R : Ex → St → Prop) : Ex → St → Prop := Ex.then (wpc (Ev P) a32_k1 (a32_q1 R)) (a32_q1 R)
def a32_q3 (R : Ex → St → Prop) : Ex → St → Prop := Ex.then (wpc (Ev P) a32_k10 R) R
def a32_q4 (R : Ex → St → Prop) : Ex → St → Prop := Ex.inBlock 0 (a32_q3 R)
def S_coded_good (k : Nat) : Prop := ∀ (x0 : T_coded_Coded) (x1 : Int) (r : Bool), coded_good k x0 x1 = some r → ∀ H, Ev P 32 [(.agg (T_coded_Coded.cells lw x0)), (.int .i64 x1)] H (.bool r) H
def S_coded_good_J1 (k : Nat) : Prop := ∀ (v2 : T_coded_Coded) (t13 : Bool) (b3 : Nat) (o3 : Int) (r : Bool) (ρ : Nat → Slot) (H : List (Option (List D))) (hb3 : objH H b3 = some ([(.int .i64 o3)])), coded_good_J1 k v2 t13 o3 = some r → wpo (Ev P) (a32_r1.drop 8) ((a32_q2 (retN a32.res (.bool r))) .normal) ⟨upds ρ [(2, .var (T_coded_Coded.cells lw v2)), (3, .d (.ptr b3 0)), (13, .d (.bool t13))], H⟩
def S_coded_good_J2 (k : Nat) : Prop := ∀ (v2 : T_coded_Coded) (t5 : Int) (t26 : Int) (t32 : Bool) (b3 : Nat) (o3 : Int) (r : Bool) (ρ : Nat → Slot) (H : List (Option (List D))) (hb3 : objH H b3 = some ([(.int .i64 o3)])), coded_good_J2 k v2 t5 t26 t32 o3 = some r → wpc (Ev P) a32_k7 (a32_q4 (retN a32.res (.bool r))) ⟨upds ρ [(2, .var (T_coded_Coded.cells lw v2)), (3, .d (.ptr b3 0)), (5, .d (.int .i64 t5)), (26, .d (.int .i64 t26)), (32, .d (.bool t32))], H⟩
def S_coded_good_c1 (k : Nat) : Prop := ∀ (x0 : T_coded_Coded) (b1 : Nat) (o1 : Int) (H : List (Option (List D))) (hb1 : objH H b1 = some ([(.int .i64 o1)])) (r : Bool), coded_good_c1 k x0 o1 = some r → Ev P 60 [(.agg (T_coded_Coded.cells lw x0)), (.ptr b1 0)] H (.bool r) H
structure C_coded_good (k : Nat) : Prop where
  coded_good : S_coded_good k
  coded_good_J1 : S_coded_good_J1 k
  coded_good_J2 : S_coded_good_J2 k
  coded_good_c1 : S_coded_good_c1 k
theorem t_coded_good (k : Nat) (ih : C_coded_good k) : S_coded_good (k + 1) := by
  intro x0 x1 r h H0
  rw [coded_good] at h
  refine evc_intro a32 Go.Proofs.Tryd.func32 c32 (Nat.le_of_ble_eq_true rfl) (cl_cons (T_coded_Coded.closed _) (cl_cons rfl cl_nil)) rfl ?_ H0
  generalize ([] : List (Option (List D))) = H
  show wpc (Ev P) a32_B (retN a32.res (.bool r)) _
  refine c_seq ?_
  refine c_reg ?_
  refine o_box (vt rfl (copy_of_agg _)) (T_coded_Coded.one wr_l _) (T_coded_Coded.copy wr_l _) ?_
  refine o_boxh' (vt rfl (copy_of_int _ _)) rfl cc_int (fun b3 H hb3 keep => ?_)
  clear keep
  refine o_mvk ?_
  refine o_nil ?_
  refine k_then ?_
  refine c_seq ?_
  refine c_seq ?_
  refine c_reg ?_
  refine o_ldo1 rfl hb3 rfl (copy_of_int _ _) ?_
  refine o_bin (vt rfl (copy_of_int _ _)) (vk (copy_of_int _ _)) bin_lss ?_
  refine o_mvt rfl (copy_of_bool _) ?_
  by_cases c1 : (decide (x1 < 1)) = true
  · have h := it_t h c1
    refine o_g_f rfl (ne_t c1) ?_
    refine o_g_f rfl (ne_t c1) ?_
    refine o_g_f rfl (ne_t c1) ?_
    refine o_g_f rfl (ne_t c1) ?_
    refine o_pick_t (vt rfl (copy_of_bool _)) c1 (vk (copy_of_bool _)) ?_
    exact wpo_head (ih.coded_good_J1 _ _ _ _ _ _ _ hb3 h) ⟨rfl, rfl, rfl, trivial⟩
  · have c1 := bf c1
    have h := it_f h c1
    refine o_g_t rfl c1 ?_
    refine o_fa (lv_v rfl) ?_
    refine o_g_t rfl c1 ?_
    refine o_ld1 (lv_l rfl) rfl (T_coded_Coded.cut_Bits lw _) (copy_of_str _) ?_
    refine o_g_t rfl c1 ?_
    obtain ⟨y11, hy11, h⟩ := bind_some h
    refine o_call rfl (g_cons (gt_ rfl (copy_of_str _)) (g_cons gk_ g_nil)) (s_strings_Trim k _ _ _ hy11 _) ?_
    refine o_g_t rfl c1 ?_
    refine o_bin (vt rfl (copy_of_str _)) (vk (copy_of_str _)) bin_sneq ?_
    refine o_pick_f (vt rfl (copy_of_bool _)) c1 (vt rfl (copy_of_bool _)) ?_
    exact wpo_head (ih.coded_good_J1 _ _ _ _ _ _ _ hb3 h) ⟨rfl, rfl, rfl, trivial⟩
theorem t_coded_good_J1 (k : Nat) (ih : C_coded_good k) : S_coded_good_J1 (k + 1) := by
  intro v2 t13 b3 o3 r ρ H hb3 h
  rw [coded_good_J1] at h
  refine o_mvt rfl (copy_of_bool _) ?_
  have key1 : ∀ ρ : Nat → Slot, wpo (Ev P) (a32_r1.drop 19) ((a32_q2 (retN a32.res (.bool r))) .normal) ⟨upds ρ [(2, .var (T_coded_Coded.cells lw v2)), (3, .d (.ptr b3 0)), (24, .d (.bool (t13 || ((v2.Kind != 2) && (!(v2.Set == (Arr.rep 4 0)))))))], H⟩ := by
    intro ρ
    refine o_nil ?_
    refine k_then ?_
    by_cases c3 : (t13 || ((v2.Kind != 2) && (!(v2.Set == (Arr.rep 4 0))))) = true
    · have h := it_t h c3
      refine c_cond_t (vt rfl (copy_of_bool _)) c3 ?_
      refine c_seq ?_
      refine c_reg ?_
      refine o_mvk ?_
      refine o_nil ?_
      refine k_then ?_
      refine c_ret ?_
      refine k_then_ret ?_
      obtain rfl := Option.some.inj h
      exact r_one rfl (res_t rfl (copy_of_bool _)) (.inl rfl)
    · have c3 := bf c3
      have h := it_f h c3
      refine c_cond_f (vt rfl (copy_of_bool _)) c3 ?_
      refine c_skip ?_
      refine k_then ?_
      refine c_seq ?_
      refine c_reg ?_
      refine o_mvk ?_
      refine o_nil ?_
      refine k_then ?_
      refine c_seq ?_
      refine c_seq ?_
      refine c_reg ?_
      refine o_fa (lv_v rfl) ?_
      refine o_ld1 (lv_l rfl) rfl (T_coded_Coded.cut_Kind lw _) (copy_of_int _ _) ?_
      refine o_nil ?_
      refine k_then ?_
      refine c_block ?_
      refine c_seq ?_
      refine c_reg ?_
      refine o_bin (vt rfl (copy_of_int _ _)) (vk (copy_of_int _ _)) bin_eql ?_
      refine o_mvt rfl (copy_of_bool _) ?_
      refine o_nil ?_
      refine k_then ?_
      by_cases c4 : (v2.Kind == 0) = true
      · have h := it_t h c4
        refine c_cond_t (vt rfl (copy_of_bool _)) c4 ?_
        refine c_seq ?_
        refine c_reg ?_
        refine o_fa (lv_v rfl) ?_
        refine o_ld1 (lv_l rfl) rfl (T_coded_Coded.cut_Bits lw _) (copy_of_str _) ?_
        refine o_bin (vt rfl (copy_of_str _)) (vk (copy_of_str _)) bin_sneq ?_
        refine o_nil ?_
        refine k_then ?_
        by_cases c5 : (!(v2.Bits == ([] : List UInt8))) = true
        · have h := it_t h c5
          refine c_cond_t (vt rfl (copy_of_bool _)) c5 ?_
          refine c_seq ?_
          refine c_reg ?_
          refine o_mvk ?_
          refine o_nil ?_
          refine k_then ?_
          refine c_ret ?_
          refine k_block_ret ?_
          refine k_then_ret ?_
          obtain rfl := Option.some.inj h
          exact r_one rfl (res_t rfl (copy_of_bool _)) (.inl rfl)
        · have c5 := bf c5
          have h := it_f h c5
          refine c_cond_f (vt rfl (copy_of_bool _)) c5 ?_
          refine c_skip ?_
          refine k_block _ ?_
          refine k_then ?_
          refine c_seq ?_
          refine c_reg ?_
          refine o_fa (lv_v rfl) ?_
          refine o_ld1 (lv_l rfl) rfl (T_coded_Coded.cut_L lw _) (Wr.copy wr_l _ _) ?_
          refine o_len_l (vt rfl (copy_of_list _)) (fun _ => ?_)
          refine o_mvt rfl (copy_of_int _ _) ?_
          refine o_bin (vt rfl (copy_of_int _ _)) (vt rfl (copy_of_int _ _)) bin_eql ?_
          refine o_mvt rfl (copy_of_bool _) ?_
          by_cases c6 : ((v2.L.length : Int) == 0) = true
          · have h := it_t h c6
            refine o_g_t rfl c6 ?_
            refine o_fa (lv_v rfl) ?_
            refine o_g_t rfl c6 ?_
            refine o_ld1 (lv_l rfl) rfl (T_coded_Coded.cut_L lw _) (Wr.copy wr_l _ _) ?_
            refine o_g_t rfl c6 ?_
            refine o_mkf (v_cons (vt rfl (copy_of_ptr _ _)) v_nil) ?_
            refine o_g_t rfl c6 ?_
            obtain ⟨y53, hy53, h⟩ := bind_some h
            refine o_call rfl (g_cons (gt_ rfl (copy_of_list _)) (g_cons (gt_ rfl (copy_of_fn _ _)) g_nil)) (s_slices_ContainsFunc_Lcoded_Coded_coded_Coded k _ (fun a0 => coded_good_c1 k a0 o3) _ _ _ (fun a0 r h => ih.coded_good_c1 a0 _ _ _ hb3 r h) _ hy53) ?_
            refine o_g_t rfl c6 ?_
            refine o_un (vt rfl (copy_of_bool _)) un_not ?_
            refine o_pick_t (vt rfl (copy_of_bool _)) c6 (vt rfl (copy_of_bool _)) ?_
            refine o_mvt rfl (copy_of_bool _) ?_
            refine o_nil ?_
            refine k_then ?_
            refine c_ret ?_
            obtain rfl := Option.some.inj h
            exact r_one rfl (res_t rfl (copy_of_bool _)) (.inl rfl)
          · have c6 := bf c6
            have h := it_f h c6
            refine o_g_f rfl (ne_f c6) ?_
            refine o_g_f rfl (ne_f c6) ?_
            refine o_g_f rfl (ne_f c6) ?_
            refine o_g_f rfl (ne_f c6) ?_
            refine o_g_f rfl (ne_f c6) ?_
            refine o_pick_f (vt rfl (copy_of_bool _)) c6 (vk (copy_of_bool _)) ?_
            refine o_mvt rfl (copy_of_bool _) ?_
            refine o_nil ?_
            refine k_then ?_
            refine c_ret ?_
            obtain rfl := Option.some.inj h
            exact r_one rfl (res_t rfl (copy_of_bool _)) (.inl rfl)
      · have c4 := bf c4
        have h := it_f h c4
        refine c_cond_f (vt rfl (copy_of_bool _)) c4 ?_
        refine c_seq ?_
        refine c_seq ?_
        refine c_reg ?_
        refine o_bin (vt rfl (copy_of_int _ _)) (vk (copy_of_int _ _)) bin_eql ?_
        refine o_mvt rfl (copy_of_bool _) ?_
        refine o_nil ?_
        refine k_then ?_
        by_cases c7 : (v2.Kind == 1) = true
        · have h := it_t h c7
          refine c_cond_t (vt rfl (copy_of_bool _)) c7 ?_
          refine c_skip ?_
          refine k_then ?_
          exact wpc_head (ih.coded_good_J2 _ _ _ _ _ _ _ _ _ hb3 h) ⟨rfl, rfl, rfl, rfl, rfl, trivial⟩
        · have c7 := bf c7
          have h := it_f h c7
          refine c_cond_f (vt rfl (copy_of_bool _)) c7 ?_
          refine c_reg ?_
          refine o_bin (vt rfl (copy_of_int _ _)) (vk (copy_of_int _ _)) bin_eql ?_
          refine o_mvt rfl (copy_of_bool _) ?_
          refine o_nil ?_
          refine k_then ?_
          exact wpc_head (ih.coded_good_J2 _ _ _ _ _ _ _ _ _ hb3 h) ⟨rfl, rfl, rfl, rfl, rfl, trivial⟩
  by_cases c2 : t13 = true
  · clear h
    refine o_g_f rfl (ne_t c2) ?_
    refine o_g_f rfl (ne_t c2) ?_
    refine o_g_f rfl (ne_t c2) ?_
    refine o_g_f rfl (ne_t c2) ?_
    refine o_g_n rfl ?_
    refine o_g_n rfl ?_
    refine o_g_n rfl ?_
    refine o_g_n rfl ?_
    refine o_g_f rfl (ne_t c2) ?_
    refine o_pick_t (vt rfl (copy_of_bool _)) c2 (vk (copy_of_bool _)) ?_
    exact wpo_head (key1 _) ⟨rfl, rfl, (by simp only [c2]; rfl), trivial⟩
  · clear h
    have c2 := bf c2
    refine o_g_t rfl c2 ?_
    refine o_fa (lv_v rfl) ?_
    refine o_g_t rfl c2 ?_
    refine o_ld1 (lv_l rfl) rfl (T_coded_Coded.cut_Kind lw _) (copy_of_int _ _) ?_
    refine o_g_t rfl c2 ?_
    refine o_bin (vt rfl (copy_of_int _ _)) (vk (copy_of_int _ _)) bin_neq ?_
    refine o_g_t rfl c2 ?_
    refine o_mvt rfl (copy_of_bool _) ?_
    by_cases c8 : (v2.Kind != 2) = true
    · skip
      refine o_g_t rfl c8 ?_
      refine o_fa (lv_v rfl) ?_
      refine o_g_t rfl c8 ?_
      refine o_ld (lv_l rfl) rfl (T_coded_Coded.cut_Set lw _) cm_int ?_
      refine o_g_t rfl c8 ?_
      refine o_build (fill_z (z' := (Arr.rep 4 0).l.map (D.int .u64)) rfl fill_nil) ?_
      refine o_g_t rfl c8 ?_
      refine o_nev (vt rfl (copy_of_agg _)) (vt rfl (copy_of_agg _)) deq_arr_int ?_
      refine o_g_t rfl c2 ?_
      refine o_pick_t (vt rfl (copy_of_bool _)) c8 (vt rfl (copy_of_bool _)) ?_
      refine o_pick_f (vt rfl (copy_of_bool _)) c2 (vt rfl (copy_of_bool _)) ?_
      exact wpo_head (key1 _) ⟨rfl, rfl, (by simp only [c2, c8]; rfl), trivial⟩
    · have c8 := bf c8
      refine o_g_f rfl (ne_f c8) ?_
      refine o_g_f rfl (ne_f c8) ?_
      refine o_g_f rfl (ne_f c8) ?_
      refine o_g_f rfl (ne_f c8) ?_
      refine o_g_t rfl c2 ?_
      refine o_pick_f (vt rfl (copy_of_bool _)) c8 (vk (copy_of_bool _)) ?_
      refine o_pick_f (vt rfl (copy_of_bool _)) c2 (vt rfl (copy_of_bool _)) ?_
      exact wpo_head (key1 _) ⟨rfl, rfl, (by simp only [c2, c8]; rfl), trivial⟩
theorem t_coded_good_J2 (k : Nat) (ih : C_coded_good k) : S_coded_good_J2 (k + 1) := by
  intro v2 t5 t26 t32 b3 o3 r ρ H hb3 h
  rw [coded_good_J2] at h
  by_cases c1 : t32 = true
  · have h := it_t h c1
    refine c_cond_t (vt rfl (copy_of_bool _)) c1 ?_
    refine c_skip ?_
    refine k_block _ ?_
    refine k_then ?_
    refine c_seq ?_
    refine c_reg ?_
    refine o_fa (lv_v rfl) ?_
    refine o_ld1 (lv_l rfl) rfl (T_coded_Coded.cut_L lw _) (Wr.copy wr_l _ _) ?_
    refine o_len_l (vt rfl (copy_of_list _)) (fun _ => ?_)
    refine o_mvt rfl (copy_of_int _ _) ?_
    refine o_bin (vt rfl (copy_of_int _ _)) (vt rfl (copy_of_int _ _)) bin_eql ?_
    refine o_mvt rfl (copy_of_bool _) ?_
    by_cases c2 : ((v2.L.length : Int) == t5) = true
    · have h := it_t h c2
      refine o_g_t rfl c2 ?_
      refine o_fa (lv_v rfl) ?_
      refine o_g_t rfl c2 ?_
      refine o_ld1 (lv_l rfl) rfl (T_coded_Coded.cut_L lw _) (Wr.copy wr_l _ _) ?_
      refine o_g_t rfl c2 ?_
      refine o_mkf (v_cons (vt rfl (copy_of_ptr _ _)) v_nil) ?_
      refine o_g_t rfl c2 ?_
      obtain ⟨y53, hy53, h⟩ := bind_some h
      refine o_call rfl (g_cons (gt_ rfl (copy_of_list _)) (g_cons (gt_ rfl (copy_of_fn _ _)) g_nil)) (s_slices_ContainsFunc_Lcoded_Coded_coded_Coded k _ (fun a0 => coded_good_c1 k a0 o3) _ _ _ (fun a0 r h => ih.coded_good_c1 a0 _ _ _ hb3 r h) _ hy53) ?_
      refine o_g_t rfl c2 ?_
      refine o_un (vt rfl (copy_of_bool _)) un_not ?_
      refine o_pick_t (vt rfl (copy_of_bool _)) c2 (vt rfl (copy_of_bool _)) ?_
      refine o_mvt rfl (copy_of_bool _) ?_
      refine o_nil ?_
      refine k_then ?_
      refine c_ret ?_
      obtain rfl := Option.some.inj h
      exact r_one rfl (res_t rfl (copy_of_bool _)) (.inl rfl)
    · have c2 := bf c2
      have h := it_f h c2
      refine o_g_f rfl (ne_f c2) ?_
      refine o_g_f rfl (ne_f c2) ?_
      refine o_g_f rfl (ne_f c2) ?_
      refine o_g_f rfl (ne_f c2) ?_
      refine o_g_f rfl (ne_f c2) ?_
      refine o_pick_f (vt rfl (copy_of_bool _)) c2 (vk (copy_of_bool _)) ?_
      refine o_mvt rfl (copy_of_bool _) ?_
      refine o_nil ?_
      refine k_then ?_
      refine c_ret ?_
      obtain rfl := Option.some.inj h
      exact r_one rfl (res_t rfl (copy_of_bool _)) (.inl rfl)
  · have c1 := bf c1
    have h := it_f h c1
    refine c_cond_f (vt rfl (copy_of_bool _)) c1 ?_
    refine c_seq ?_
    refine c_reg ?_
    refine o_bin (vt rfl (copy_of_int _ _)) (vk (copy_of_int _ _)) bin_eql ?_
    refine o_mvt rfl (copy_of_bool _) ?_
    refine o_nil ?_
    refine k_then ?_
    by_cases c3 : (t26 == 3) = true
    · have h := it_t h c3
      refine c_cond_t (vt rfl (copy_of_bool _)) c3 ?_
      refine c_reg ?_
      refine o_mvk ?_
      refine o_nil ?_
      refine k_block _ ?_
      refine k_then ?_
      refine c_seq ?_
      refine c_reg ?_
      refine o_fa (lv_v rfl) ?_
      refine o_ld1 (lv_l rfl) rfl (T_coded_Coded.cut_L lw _) (Wr.copy wr_l _ _) ?_
      refine o_len_l (vt rfl (copy_of_list _)) (fun _ => ?_)
      refine o_mvt rfl (copy_of_int _ _) ?_
      refine o_bin (vt rfl (copy_of_int _ _)) (vt rfl (copy_of_int _ _)) bin_eql ?_
      refine o_mvt rfl (copy_of_bool _) ?_
      by_cases c4 : ((v2.L.length : Int) == 2) = true
      · have h := it_t h c4
        refine o_g_t rfl c4 ?_
        refine o_fa (lv_v rfl) ?_
        refine o_g_t rfl c4 ?_
        refine o_ld1 (lv_l rfl) rfl (T_coded_Coded.cut_L lw _) (Wr.copy wr_l _ _) ?_
        refine o_g_t rfl c4 ?_
        refine o_mkf (v_cons (vt rfl (copy_of_ptr _ _)) v_nil) ?_
        refine o_g_t rfl c4 ?_
        obtain ⟨y53, hy53, h⟩ := bind_some h
        refine o_call rfl (g_cons (gt_ rfl (copy_of_list _)) (g_cons (gt_ rfl (copy_of_fn _ _)) g_nil)) (s_slices_ContainsFunc_Lcoded_Coded_coded_Coded k _ (fun a0 => coded_good_c1 k a0 o3) _ _ _ (fun a0 r h => ih.coded_good_c1 a0 _ _ _ hb3 r h) _ hy53) ?_
        refine o_g_t rfl c4 ?_
        refine o_un (vt rfl (copy_of_bool _)) un_not ?_
        refine o_pick_t (vt rfl (copy_of_bool _)) c4 (vt rfl (copy_of_bool _)) ?_
        refine o_mvt rfl (copy_of_bool _) ?_
        refine o_nil ?_
        refine k_then ?_
        refine c_ret ?_
        obtain rfl := Option.some.inj h
        exact r_one rfl (res_t rfl (copy_of_bool _)) (.inl rfl)
      · have c4 := bf c4
        have h := it_f h c4
        refine o_g_f rfl (ne_f c4) ?_
        refine o_g_f rfl (ne_f c4) ?_
        refine o_g_f rfl (ne_f c4) ?_
        refine o_g_f rfl (ne_f c4) ?_
        refine o_g_f rfl (ne_f c4) ?_
        refine o_pick_f (vt rfl (copy_of_bool _)) c4 (vk (copy_of_bool _)) ?_
        refine o_mvt rfl (copy_of_bool _) ?_
        refine o_nil ?_
        refine k_then ?_
        refine c_ret ?_
        obtain rfl := Option.some.inj h
        exact r_one rfl (res_t rfl (copy_of_bool _)) (.inl rfl)
    · have c3 := bf c3
      have h := it_f h c3
      refine c_cond_f (vt rfl (copy_of_bool _)) c3 ?_
      refine c_seq ?_
      refine c_reg ?_
      refine o_bin (vt rfl (copy_of_int _ _)) (vk (copy_of_int _ _)) bin_eql ?_
      refine o_mvt rfl (copy_of_bool _) ?_
      refine o_nil ?_
      refine k_then ?_
      by_cases c5 : (t26 == 4) = true
      · have h := it_t h c5
        refine c_cond_t (vt rfl (copy_of_bool _)) c5 ?_
        refine c_reg ?_
        refine o_fa (lv_v rfl) ?_
        refine o_ld1 (lv_l rfl) rfl (T_coded_Coded.cut_L lw _) (Wr.copy wr_l _ _) ?_
        refine o_len_l (vt rfl (copy_of_list _)) (fun _ => ?_)
        refine o_mvt rfl (copy_of_int _ _) ?_
        refine o_nil ?_
        refine k_block _ ?_
        refine k_then ?_
        refine c_seq ?_
        refine c_reg ?_
        refine o_fa (lv_v rfl) ?_
        refine o_ld1 (lv_l rfl) rfl (T_coded_Coded.cut_L lw _) (Wr.copy wr_l _ _) ?_
        refine o_len_l (vt rfl (copy_of_list _)) (fun _ => ?_)
        refine o_mvt rfl (copy_of_int _ _) ?_
        refine o_bin (vt rfl (copy_of_int _ _)) (vt rfl (copy_of_int _ _)) bin_eql ?_
        refine o_mvt rfl (copy_of_bool _) ?_
        by_cases c6 : ((v2.L.length : Int) == (v2.L.length : Int)) = true
        · have h := it_t h c6
          refine o_g_t rfl c6 ?_
          refine o_fa (lv_v rfl) ?_
          refine o_g_t rfl c6 ?_
          refine o_ld1 (lv_l rfl) rfl (T_coded_Coded.cut_L lw _) (Wr.copy wr_l _ _) ?_
          refine o_g_t rfl c6 ?_
          refine o_mkf (v_cons (vt rfl (copy_of_ptr _ _)) v_nil) ?_
          refine o_g_t rfl c6 ?_
          obtain ⟨y53, hy53, h⟩ := bind_some h
          refine o_call rfl (g_cons (gt_ rfl (copy_of_list _)) (g_cons (gt_ rfl (copy_of_fn _ _)) g_nil)) (s_slices_ContainsFunc_Lcoded_Coded_coded_Coded k _ (fun a0 => coded_good_c1 k a0 o3) _ _ _ (fun a0 r h => ih.coded_good_c1 a0 _ _ _ hb3 r h) _ hy53) ?_
          refine o_g_t rfl c6 ?_
          refine o_un (vt rfl (copy_of_bool _)) un_not ?_
          refine o_pick_t (vt rfl (copy_of_bool _)) c6 (vt rfl (copy_of_bool _)) ?_
          refine o_mvt rfl (copy_of_bool _) ?_
          refine o_nil ?_
          refine k_then ?_
          refine c_ret ?_
          obtain rfl := Option.some.inj h
          exact r_one rfl (res_t rfl (copy_of_bool _)) (.inl rfl)
        · have c6 := bf c6
          have h := it_f h c6
          refine o_g_f rfl (ne_f c6) ?_
          refine o_g_f rfl (ne_f c6) ?_
          refine o_g_f rfl (ne_f c6) ?_
          refine o_g_f rfl (ne_f c6) ?_
          refine o_g_f rfl (ne_f c6) ?_
          refine o_pick_f (vt rfl (copy_of_bool _)) c6 (vk (copy_of_bool _)) ?_
          refine o_mvt rfl (copy_of_bool _) ?_
          refine o_nil ?_
          refine k_then ?_
          refine c_ret ?_
          obtain rfl := Option.some.inj h
          exact r_one rfl (res_t rfl (copy_of_bool _)) (.inl rfl)
      · have c5 := bf c5
        have h := it_f h c5
        refine c_cond_f (vt rfl (copy_of_bool _)) c5 ?_
        refine c_seq ?_
        refine c_reg ?_
        refine o_bin (vt rfl (copy_of_int _ _)) (vk (copy_of_int _ _)) bin_eql ?_
        refine o_mvt rfl (copy_of_bool _) ?_
        refine o_nil ?_
        refine k_then ?_
        by_cases c7 : (t26 == 5) = true
        · have h := it_t h c7
          refine c_cond_t (vt rfl (copy_of_bool _)) c7 ?_
          refine c_reg ?_
          refine o_mvk ?_
          refine o_nil ?_
          refine k_block _ ?_
          refine k_then ?_
          refine c_seq ?_
          refine c_reg ?_
          refine o_fa (lv_v rfl) ?_
          refine o_ld1 (lv_l rfl) rfl (T_coded_Coded.cut_L lw _) (Wr.copy wr_l _ _) ?_
          refine o_len_l (vt rfl (copy_of_list _)) (fun _ => ?_)
          refine o_mvt rfl (copy_of_int _ _) ?_
          refine o_bin (vt rfl (copy_of_int _ _)) (vt rfl (copy_of_int _ _)) bin_eql ?_
          refine o_mvt rfl (copy_of_bool _) ?_
          by_cases c8 : ((v2.L.length : Int) == 1) = true
          · have h := it_t h c8
            refine o_g_t rfl c8 ?_
            refine o_fa (lv_v rfl) ?_
            refine o_g_t rfl c8 ?_
            refine o_ld1 (lv_l rfl) rfl (T_coded_Coded.cut_L lw _) (Wr.copy wr_l _ _) ?_
            refine o_g_t rfl c8 ?_
            refine o_mkf (v_cons (vt rfl (copy_of_ptr _ _)) v_nil) ?_
            refine o_g_t rfl c8 ?_
            obtain ⟨y53, hy53, h⟩ := bind_some h
            refine o_call rfl (g_cons (gt_ rfl (copy_of_list _)) (g_cons (gt_ rfl (copy_of_fn _ _)) g_nil)) (s_slices_ContainsFunc_Lcoded_Coded_coded_Coded k _ (fun a0 => coded_good_c1 k a0 o3) _ _ _ (fun a0 r h => ih.coded_good_c1 a0 _ _ _ hb3 r h) _ hy53) ?_
            refine o_g_t rfl c8 ?_
            refine o_un (vt rfl (copy_of_bool _)) un_not ?_
            refine o_pick_t (vt rfl (copy_of_bool _)) c8 (vt rfl (copy_of_bool _)) ?_
            refine o_mvt rfl (copy_of_bool _) ?_
            refine o_nil ?_
            refine k_then ?_
            refine c_ret ?_
            obtain rfl := Option.some.inj h
            exact r_one rfl (res_t rfl (copy_of_bool _)) (.inl rfl)
          · have c8 := bf c8
            have h := it_f h c8
            refine o_g_f rfl (ne_f c8) ?_
            refine o_g_f rfl (ne_f c8) ?_
            refine o_g_f rfl (ne_f c8) ?_
            refine o_g_f rfl (ne_f c8) ?_
            refine o_g_f rfl (ne_f c8) ?_
            refine o_pick_f (vt rfl (copy_of_bool _)) c8 (vk (copy_of_bool _)) ?_
            refine o_mvt rfl (copy_of_bool _) ?_
            refine o_nil ?_
            refine k_then ?_
            refine c_ret ?_
            obtain rfl := Option.some.inj h
            exact r_one rfl (res_t rfl (copy_of_bool _)) (.inl rfl)
        · have c7 := bf c7
          have h := it_f h c7
          refine c_cond_f (vt rfl (copy_of_bool _)) c7 ?_
          refine c_seq ?_
          refine c_reg ?_
          refine o_mvk ?_
          refine o_nil ?_
          refine k_then ?_
          refine c_ret ?_
          refine k_block_ret ?_
          refine k_then_ret ?_
          obtain rfl := Option.some.inj h
          exact r_one rfl (res_t rfl (copy_of_bool _)) (.inl rfl)
theorem t_coded_good_c1 (k : Nat) (ih : C_coded_good k) : S_coded_good_c1 (k + 1) := by
  intro x0 b1 o1 H hb1 r h
  rw [coded_good_c1] at h
  refine ev_intro a60 Go.Proofs.Tryd.func60 c60 (Nat.le_of_ble_eq_true rfl) ?_
  show wpc (Ev P) a60_B (retQ a60.res (.bool r) H) _
  refine c_seq ?_
  refine c_reg ?_
  refine o_box (vt rfl (copy_of_agg _)) (T_coded_Coded.one wr_l _) (T_coded_Coded.copy wr_l _) ?_
  refine o_mvk ?_
  refine o_nil ?_
  refine k_then ?_
  refine c_seq ?_
  refine c_reg ?_
  refine o_ld (lv_v rfl) rfl (cut_all (T_coded_Coded.len _ _)) (T_coded_Coded.copy wr_l _) ?_
  refine o_ldo1 rfl hb1 rfl (copy_of_int _ _) ?_
  refine o_bin (vt rfl (copy_of_int _ _)) (vk (copy_of_int _ _)) bin_sub ?_
  obtain ⟨y7, hy7, h⟩ := bind_some h
  refine o_call rfl (g_cons (gt_ rfl (copy_of_agg _)) (g_cons (gt_ rfl (copy_of_int _ _)) g_nil)) (ih.coded_good _ _ _ hy7 _) ?_
  refine o_un (vt rfl (copy_of_bool _)) un_not ?_
  refine o_mvt rfl (copy_of_bool _) ?_
  refine o_nil ?_
  refine k_then ?_
  refine c_ret ?_
  obtain rfl := Option.some.inj h
  exact rq_one rfl (res_t rfl (copy_of_bool _)) (.inl rfl) rfl
theorem z_coded_good : S_coded_good 0 := by
  intro x0 x1 r h H
  rw [coded_good] at h; cases h
theorem z_coded_good_J1 : S_coded_good_J1 0 := by
  intro v2 t13 b3 o3 r ρ H hb3 h
  rw [coded_good_J1] at h; cases h
theorem z_coded_good_J2 : S_coded_good_J2 0 := by
  intro v2 t5 t26 t32 b3 o3 r ρ H hb3 h
  rw [coded_good_J2] at h; cases h
theorem z_coded_good_c1 : S_coded_good_c1 0 := by
  intro x0 b1 o1 H hb1 r h
  rw [coded_good_c1] at h; cases h
theorem C_coded_good.all : ∀ k, C_coded_good k
  | 0 => ⟨z_coded_good, z_coded_good_J1, z_coded_good_J2, z_coded_good_c1⟩
  | k + 1 => ⟨t_coded_good k (C_coded_good.all k), t_coded_good_J1 k (C_coded_good.all k), t_coded_good_J2 k (C_coded_good.all k), t_coded_good_c1 k (C_coded_good.all k)⟩
theorem s_coded_good (k : Nat) : S_coded_good k := (C_coded_good.all k).coded_good
theorem s_coded_good_c1 (k : Nat) : S_coded_good_c1 k := (C_coded_good.all k).coded_good_c1
def a8_r0 : List AI := [
  { dst := some 1, op := .box (.t 0) },
  { dst := some 2, op := .mv (.k (.bool false)) }]
def a8_r1 : List AI := [
  { dst := some 3, op := .ld (some 7) 1 },
  { dst := some 4, op := .call 28 [(.t 3)] },
  { dst := some 5, op := .bin .leq (.t 4) (.k (.int .i64 20000)) },
  { dst := some 6, op := .mv (.t 5) },
  { dst := some 7, g := some (6, true), op := .ld (some 7) 1 },
  { dst := some 8, g := some (6, true), op := .call 32 [(.t 7), (.k (.int .i64 8000))] },
  { dst := some 9, op := .pick (.t 6) (.t 8) (.k (.bool false)) },
  { dst := some 2, op := .mv (.t 9) }]
def a8_k1 : AC := (.seq (.reg a8_r1) .ret)
def a8_B : AC := (.seq (.reg a8_r0) a8_k1)
/-- catchpole/coded.Good -/
def a8 : AF := { N := 10, V := [1], body := a8_B, res := [.t 2] }
theorem c8 : chkF P a8 Go.Proofs.Tryd.f8 = true := by kernel_rfl
/-- catchpole/coded.Good -/
def coded_Good (k : Nat) (x0 : T_coded_Coded) : Option Bool := match k with
  | 0 => none
  | k + 1 =>
    (coded_Size k x0).bind fun y4 =>
    if (decide (y4 ≤ 20000)) = true then ((coded_good k x0 8000).bind fun y8 =>
    some y8)
    else some false
def S_coded_Good (k : Nat) : Prop := ∀ (x0 : T_coded_Coded) (r : Bool), coded_Good k x0 = some r → ∀ H, Ev P 8 [(.agg (T_coded_Coded.cells lw x0))] H (.bool r) H
structure C_coded_Good (k : Nat) : Prop where
  coded_Good : S_coded_Good k
theorem t_coded_Good (k : Nat) (ih : C_coded_Good k) : S_coded_Good (k + 1) := by
  intro x0 r h H0
  rw [coded_Good] at h
  refine evc_intro a8 Go.Proofs.Tryd.func8 c8 (Nat.le_of_ble_eq_true rfl) (cl_cons (T_coded_Coded.closed _) cl_nil) rfl ?_ H0
  generalize ([] : List (Option (List D))) = H
  show wpc (Ev P) a8_B (retN a8.res (.bool r)) _
  refine c_seq ?_
  refine c_reg ?_
  refine o_box (vt rfl (copy_of_agg _)) (T_coded_Coded.one wr_l _) (T_coded_Coded.copy wr_l _) ?_
  refine o_mvk ?_
  refine o_nil ?_
  refine k_then ?_
  refine c_seq ?_
  refine c_reg ?_
  refine o_ld (lv_v rfl) rfl (cut_all (T_coded_Coded.len _ _)) (T_coded_Coded.copy wr_l _) ?_
  obtain ⟨y4, hy4, h⟩ := bind_some h
  refine o_call rfl (g_cons (gt_ rfl (copy_of_agg _)) g_nil) (s_coded_Size k _ _ hy4 _) ?_
  refine o_bin (vt rfl (copy_of_int _ _)) (vk (copy_of_int _ _)) bin_leq ?_
  refine o_mvt rfl (copy_of_bool _) ?_
  by_cases c1 : (decide (y4 ≤ 20000)) = true
  · have h := it_t h c1
    refine o_g_t rfl c1 ?_
    refine o_ld (lv_v rfl) rfl (cut_all (T_coded_Coded.len _ _)) (T_coded_Coded.copy wr_l _) ?_
    refine o_g_t rfl c1 ?_
    obtain ⟨y8, hy8, h⟩ := bind_some h
    refine o_call rfl (g_cons (gt_ rfl (copy_of_agg _)) (g_cons gk_ g_nil)) (s_coded_good k _ _ _ hy8 _) ?_
    refine o_pick_t (vt rfl (copy_of_bool _)) c1 (vt rfl (copy_of_bool _)) ?_
    refine o_mvt rfl (copy_of_bool _) ?_
    refine o_nil ?_
    refine k_then ?_
    refine c_ret ?_
    obtain rfl := Option.some.inj h
    exact r_one rfl (res_t rfl (copy_of_bool _)) (.inl rfl)
  · have c1 := bf c1
    have h := it_f h c1
    refine o_g_f rfl (ne_f c1) ?_
    refine o_g_f rfl (ne_f c1) ?_
    refine o_pick_f (vt rfl (copy_of_bool _)) c1 (vk (copy_of_bool _)) ?_
    refine o_mvt rfl (copy_of_bool _) ?_
    refine o_nil ?_
    refine k_then ?_
    refine c_ret ?_
    obtain rfl := Option.some.inj h
    exact r_one rfl (res_t rfl (copy_of_bool _)) (.inl rfl)
theorem z_coded_Good : S_coded_Good 0 := by
  intro x0 r h H
  rw [coded_Good] at h; cases h
theorem C_coded_Good.all : ∀ k, C_coded_Good k
  | 0 => ⟨z_coded_Good⟩
  | k + 1 => ⟨t_coded_Good k (C_coded_Good.all k)⟩
theorem s_coded_Good (k : Nat) : S_coded_Good k := (C_coded_Good.all k).coded_Good
def a34_r0 : List AI := [
  { dst := some 3, op := .box (.t 1) },
  { dst := some 4, op := .alloc [.int .i64 0, .str [], .int .u64 0, .int .u64 0, .int .u64 0, .int .u64 0, .list []] }]
def a34_r1 : List AI := [
  { dst := some 5, op := .fa 3 0 },
  { dst := some 6, op := .ld none 5 },
  { dst := some 7, op := .bin .neq (.t 6) (.k (.int .i64 0)) }]
def a34_r2 : List AI := [
  { dst := some 8, op := .mv (.t 0) },
  { dst := some 9, op := .fa 3 1 },
  { dst := some 10, op := .ld none 9 },
  { dst := some 11, op := .bin .add (.t 8) (.t 10) },
  { dst := some 12, op := .fa 3 1 },
  { dst := none, op := .st 1 12 (.t 11) }]
def a34_k1 : AC := (.cond (.t 7) (.reg a34_r2) .skip)
def a34_r3 : List AI := [
  { dst := some 13, op := .ld (some 7) 3 },
  { dst := none, op := .st 7 4 (.t 13) }]
def a34_k2 : AC := (.seq (.reg a34_r3) .ret)
def a34_k3 : AC := (.seq (.seq (.reg a34_r1) a34_k1) a34_k2)
def a34_B : AC := (.seq (.reg a34_r0) a34_k3)
/-- catchpole/simp.fuse -/
def a34 : AF := { N := 14, V := [3, 4], body := a34_B, res := [.c (some 7) 4] }
theorem c34 : chkF P a34 Go.Proofs.Tryd.f34 = true := by kernel_rfl
/-- catchpole/simp.fuse -/
def simp_fuse (k : Nat) (x0 : (List UInt8)) (x1 : T_coded_Coded) : Option T_coded_Coded := match k with
  | 0 => none
  | k + 1 =>
    if (x1.Kind != 0) = true then (need (x0.length + x1.Bits.length ≤ 140737488351232) <|
    some (T_coded_Coded.mk x1.Kind (x0 ++ x1.Bits) x1.Set x1.L))
    else some x1
def S_simp_fuse (k : Nat) : Prop := ∀ (x0 : (List UInt8)) (x1 : T_coded_Coded) (r : T_coded_Coded), simp_fuse k x0 x1 = some r → ∀ H, Ev P 34 [(.str x0), (.agg (T_coded_Coded.cells lw x1))] H (.agg (T_coded_Coded.cells lw r)) H
structure C_simp_fuse (k : Nat) : Prop where
  simp_fuse : S_simp_fuse k
theorem t_simp_fuse (k : Nat) (ih : C_simp_fuse k) : S_simp_fuse (k + 1) := by
  intro x0 x1 r h H0
  rw [simp_fuse] at h
  refine evc_intro a34 Go.Proofs.Tryd.func34 c34 (Nat.le_of_ble_eq_true rfl) (cl_cons rfl (cl_cons (T_coded_Coded.closed _) cl_nil)) (T_coded_Coded.closed _) ?_ H0
  generalize ([] : List (Option (List D))) = H
  show wpc (Ev P) a34_B (retN a34.res (.agg (T_coded_Coded.cells lw r))) _
  refine c_seq ?_
  refine c_reg ?_
  refine o_box (vt rfl (copy_of_agg _)) (T_coded_Coded.one wr_l _) (T_coded_Coded.copy wr_l _) ?_
  refine o_alloc (cs := T_coded_Coded.cells lw (T_coded_Coded.mk 0 [] (Arr.rep 4 0) [])) rfl ?_
  refine o_nil ?_
  refine k_then ?_
  refine c_seq ?_
  refine c_seq ?_
  refine c_reg ?_
  refine o_fa (lv_v rfl) ?_
  refine o_ld1 (lv_l rfl) rfl (T_coded_Coded.cut_Kind lw _) (copy_of_int _ _) ?_
  refine o_bin (vt rfl (copy_of_int _ _)) (vk (copy_of_int _ _)) bin_neq ?_
  refine o_nil ?_
  refine k_then ?_
  by_cases c1 : (x1.Kind != 0) = true
  · have h := it_t h c1
    refine c_cond_t (vt rfl (copy_of_bool _)) c1 ?_
    refine c_reg ?_
    refine o_mvt rfl (copy_of_str _) ?_
    refine o_fa (lv_v rfl) ?_
    refine o_ld1 (lv_l rfl) rfl (T_coded_Coded.cut_Bits lw _) (copy_of_str _) ?_
    obtain ⟨c2, h⟩ := need_some h
    refine o_bin (vt rfl (copy_of_str _)) (vt rfl (copy_of_str _)) (bin_str c2) ?_
    refine o_fa (lv_v rfl) ?_
    refine o_st rfl (lv_l rfl) (gt_ rfl (copy_of_str _)) (cells_of_str _) rfl rfl rfl (T_coded_Coded.spl_Bits _ (x0 ++ x1.Bits)) ?_
    refine o_nil ?_
    refine k_then ?_
    refine c_seq ?_
    refine c_reg ?_
    refine o_ld (lv_v rfl) rfl (cut_all (T_coded_Coded.len _ _)) (T_coded_Coded.copy wr_l _) ?_
    refine o_st rfl (lv_v rfl) (gt_ rfl (copy_of_agg _)) (cells_of_agg _) (T_coded_Coded.len _ _) (T_coded_Coded.one wr_l _) rfl (splice_all (n := 7) (T_coded_Coded.len _ _) (T_coded_Coded.len _ _)) ?_
    refine o_nil ?_
    refine k_then ?_
    refine c_ret ?_
    obtain rfl := Option.some.inj h
    exact r_one rfl (res_c rfl (cut_all (T_coded_Coded.len _ _)) (T_coded_Coded.copy wr_l _)) (.inl rfl)
  · have c1 := bf c1
    have h := it_f h c1
    refine c_cond_f (vt rfl (copy_of_bool _)) c1 ?_
    refine c_skip ?_
    refine k_then ?_
    refine c_seq ?_
    refine c_reg ?_
    refine o_ld (lv_v rfl) rfl (cut_all (T_coded_Coded.len _ _)) (T_coded_Coded.copy wr_l _) ?_
    refine o_st rfl (lv_v rfl) (gt_ rfl (copy_of_agg _)) (cells_of_agg _) (T_coded_Coded.len _ _) (T_coded_Coded.one wr_l _) rfl (splice_all (n := 7) (T_coded_Coded.len _ _) (T_coded_Coded.len _ _)) ?_
    refine o_nil ?_
    refine k_then ?_
    refine c_ret ?_
    obtain rfl := Option.some.inj h
    exact r_one rfl (res_c rfl (cut_all (T_coded_Coded.len _ _)) (T_coded_Coded.copy wr_l _)) (.inl rfl)
theorem z_simp_fuse : S_simp_fuse 0 := by
  intro x0 x1 r h H
  rw [simp_fuse] at h; cases h
theorem C_simp_fuse.all : ∀ k, C_simp_fuse k
  | 0 => ⟨z_simp_fuse⟩
  | k + 1 => ⟨t_simp_fuse k (C_simp_fuse.all k)⟩
theorem s_simp_fuse (k : Nat) : S_simp_fuse k := (C_simp_fuse.all k).simp_fuse
def a10_r0 : List AI := [
  { dst := some 2, op := .mv (.k (.list [])) }]
def a10_r1 : List AI := [
  { dst := some 3, op := .mv (.k (.own 27 [])) }]
def a10_r2 : List AI := [
  { dst := some 8, op := .mv (.t 0) },
  { dst := some 9, op := .len false (.t 8) },
  { dst := some 10, op := .mv (.k (.int .i64 0)) }]
def a10_r3 : List AI := [
  { dst := some 11, op := .bin .lss (.t 10) (.t 9) }]
def a10_r4 : List AI := [
  { dst := some 12, op := .ias 7 (.t 8) (.t 10) },
  { dst := some 13, op := .ld (some 7) 12 },
  { dst := some 5, op := .alloc [.int .i64 0, .str [], .int .u64 0, .int .u64 0, .int .u64 0, .int .u64 0, .list []] },
  { dst := none, op := .st 7 5 (.t 13) }]
def a10_r5 : List AI := [
  { dst := some 14, op := .fa 5 0 },
  { dst := some 15, op := .ld none 14 }]
def a10_r7 : List AI := [
  { dst := some 21, op := .bin .eql (.t 15) (.k (.int .i64 0)) },
  { dst := some 20, op := .mv (.t 21) }]
def a10_r8 : List AI := [
  { dst := some 23, op := .bin .eql (.t 15) (.k (.int .i64 4)) },
  { dst := some 22, op := .mv (.t 23) }]
def a10_r9 : List AI := [
  { dst := some 24, op := .fa 5 6 },
  { dst := some 25, op := .ld none 24 },
  { dst := some 26, op := .len false (.t 25) },
  { dst := some 27, op := .mv (.k (.int .i64 0)) }]
def a10_r10 : List AI := [
  { dst := some 28, op := .bin .lss (.t 27) (.t 26) }]
def a10_r11 : List AI := [
  { dst := some 29, op := .ias 7 (.t 25) (.t 27) },
  { dst := some 30, op := .ld (some 7) 29 },
  { dst := some 7, op := .alloc [.int .i64 0, .str [], .int .u64 0, .int .u64 0, .int .u64 0, .int .u64 0, .list []] },
  { dst := none, op := .st 7 7 (.t 30) }]
def a10_r12 : List AI := [
  { dst := some 31, op := .mv (.x 3) },
  { dst := some 32, op := .fa 5 1 },
  { dst := some 33, op := .ld none 32 },
  { dst := some 34, op := .ld (some 7) 7 },
  { dst := some 35, op := .call 34 [(.t 33), (.t 34)] },
  { dst := some 36, op := .bsl 27 7 [(.t 35)] },
  { dst := some 37, op := .app 27 7 80 31 (.t 36) },
  { dst := some 3, op := .mv (.x 37) }]
def a10_r13 : List AI := [
  { dst := some 38, op := .bin .add (.t 27) (.k (.int .i64 1)) },
  { dst := some 27, op := .mv (.t 38) }]
def a10_k1 : AC := (.seq (.block 4 (.seq (.reg a10_r11) (.reg a10_r12))) (.reg a10_r13))
def a10_k2 : AC := (.seq (.cond (.t 28) .skip (.exit 3)) a10_k1)
def a10_L2 : AC := (.seq (.reg a10_r10) a10_k2)
def a10_k3 : AC := (.block 3 (.loop a10_L2))
def a10_r6 : List AI := [
  { dst := some 16, op := .mv (.x 3) },
  { dst := some 17, op := .ld (some 7) 5 },
  { dst := some 18, op := .bsl 27 7 [(.t 17)] },
  { dst := some 19, op := .app 27 7 80 16 (.t 18) },
  { dst := some 3, op := .mv (.x 19) }]
def a10_k4 : AC := (.cond (.t 22) (.seq (.reg a10_r9) a10_k3) (.reg a10_r6))
def a10_k5 : AC := (.cond (.t 20) .skip (.seq (.reg a10_r8) a10_k4))
def a10_k6 : AC := (.block 2 (.seq (.reg a10_r7) a10_k5))
def a10_k7 : AC := (.seq (.reg a10_r5) a10_k6)
def a10_r14 : List AI := [
  { dst := some 39, op := .bin .add (.t 10) (.k (.int .i64 1)) },
  { dst := some 10, op := .mv (.t 39) }]
def a10_k8 : AC := (.seq (.block 1 (.seq (.reg a10_r4) a10_k7)) (.reg a10_r14))
def a10_k9 : AC := (.seq (.cond (.t 11) .skip (.exit 0)) a10_k8)
def a10_L1 : AC := (.seq (.reg a10_r3) a10_k9)
def a10_k10 : AC := (.block 0 (.loop a10_L1))
def a10_r15 : List AI := [
  { dst := some 40, op := .mv (.t 3) },
  { dst := some 2, op := .mv (.t 40) }]
def a10_k11 : AC := (.seq (.reg a10_r15) .ret)
def a10_k12 : AC := (.seq (.seq (.reg a10_r2) a10_k10) a10_k11)
def a10_k13 : AC := (.seq (.reg a10_r1) a10_k12)
def a10_B : AC := (.seq (.reg a10_r0) a10_k13)
/-- catchpole/simp.Flat -/
def a10 : AF := { N := 41, V := [5, 7], body := a10_B, res := [.t 2] }
theorem c10 : chkF P a10 Go.Proofs.Tryd.f10 = true := by kernel_rfl
mutual
/-- catchpole/simp.Flat -/
def simp_Flat (k : Nat) (x0 : (List T_coded_Coded)) : Option (List T_coded_Coded) := match k with
  | 0 => none
  | k + 1 =>
    simp_Flat_L1 k [] x0 (x0.length : Int) 0
def simp_Flat_L1 (k : Nat) (t3 : (List T_coded_Coded)) (t8 : (List T_coded_Coded)) (t9 : Int) (t10 : Int) : Option (List T_coded_Coded) := match k with
  | 0 => none
  | k + 1 =>
    if (decide (t10 < t9)) = true then ((at_ t8 t10).bind fun y12 =>
    if (y12.Kind == 0) = true then (simp_Flat_J1 k t3 t8 t9 t10)
    else if (y12.Kind == 4) = true then (simp_Flat_L2 k t3 y12 t8 t9 t10 y12.L (y12.L.length : Int) 0)
    else need ((t3.length + ([y12]).length) * 80 ≤ 140737488351232 ∧ t3.length + ([y12]).length ≤ 140737488351232) <|
    simp_Flat_J1 k (t3 ++ ([y12])) t8 t9 t10)
    else some t3
def simp_Flat_J1 (k : Nat) (t3 : (List T_coded_Coded)) (t8 : (List T_coded_Coded)) (t9 : Int) (t10 : Int) : Option (List T_coded_Coded) := match k with
  | 0 => none
  | k + 1 =>
    simp_Flat_L1 k t3 t8 t9 (IntKind.i64.wrap (t10 + 1))
def simp_Flat_L2 (k : Nat) (t3 : (List T_coded_Coded)) (v5 : T_coded_Coded) (t8 : (List T_coded_Coded)) (t9 : Int) (t10 : Int) (t25 : (List T_coded_Coded)) (t26 : Int) (t27 : Int) : Option (List T_coded_Coded) := match k with
  | 0 => none
  | k + 1 =>
    if (decide (t27 < t26)) = true then ((at_ t25 t27).bind fun y29 =>
    (simp_fuse k v5.Bits y29).bind fun y35 =>
    need ((t3.length + ([y35]).length) * 80 ≤ 140737488351232 ∧ t3.length + ([y35]).length ≤ 140737488351232) <|
    simp_Flat_L2 k (t3 ++ ([y35])) v5 t8 t9 t10 t25 t26 (IntKind.i64.wrap (t27 + 1)))
    else simp_Flat_J1 k t3 t8 t9 t10
end
def a10_q1 (R : Ex → St → Prop) : Ex → St → Prop := Ex.then (wpc (Ev P) a10_k11 R) R
def a10_q2 (R : Ex → St → Prop) : Ex → St → Prop := Ex.inBlock 0 (a10_q1 R)
def a10_q3 (R : Ex → St → Prop) : Ex → St → Prop := Ex.then (wpc (Ev P) (.loop a10_L1) (a10_q2 R)) (a10_q2 R)
def a10_q4 (R : Ex → St → Prop) : Ex → St → Prop := Ex.then (wpc (Ev P) (.reg a10_r14) (a10_q3 R)) (a10_q3 R)
def a10_q5 (R : Ex → St → Prop) : Ex → St → Prop := Ex.inBlock 1 (a10_q4 R)
def a10_q6 (R : Ex → St → Prop) : Ex → St → Prop := Ex.inBlock 2 (a10_q5 R)
def a10_q7 (R : Ex → St → Prop) : Ex → St → Prop := Ex.inBlock 3 (a10_q6 R)
def S_simp_Flat (k : Nat) : Prop := ∀ (x0 : (List T_coded_Coded)) (r : (List T_coded_Coded)), simp_Flat k x0 = some r → ∀ H, Ev P 10 [(.list (x0.map T_coded_Coded.enc))] H (.list (r.map T_coded_Coded.enc)) H
def S_simp_Flat_L1 (k : Nat) : Prop := ∀ (t3 : (List T_coded_Coded)) (t8 : (List T_coded_Coded)) (t9 : Int) (t10 : Int) (r : (List T_coded_Coded)) (ρ : Nat → Slot) (H : List (Option (List D))) , simp_Flat_L1 k t3 t8 t9 t10 = some r → wpc (Ev P) (.loop a10_L1) (a10_q2 (retN a10.res (.list (r.map T_coded_Coded.enc)))) ⟨upds ρ [(3, .d (.own 27 (t3.map T_coded_Coded.enc))), (8, .d (.list (t8.map T_coded_Coded.enc))), (9, .d (.int .i64 t9)), (10, .d (.int .i64 t10))], H⟩
def S_simp_Flat_J1 (k : Nat) : Prop := ∀ (t3 : (List T_coded_Coded)) (t8 : (List T_coded_Coded)) (t9 : Int) (t10 : Int) (r : (List T_coded_Coded)) (ρ : Nat → Slot) (H : List (Option (List D))) , simp_Flat_J1 k t3 t8 t9 t10 = some r → wpc (Ev P) (.reg a10_r14) (a10_q3 (retN a10.res (.list (r.map T_coded_Coded.enc)))) ⟨upds ρ [(3, .d (.own 27 (t3.map T_coded_Coded.enc))), (8, .d (.list (t8.map T_coded_Coded.enc))), (9, .d (.int .i64 t9)), (10, .d (.int .i64 t10))], H⟩
def S_simp_Flat_L2 (k : Nat) : Prop := ∀ (t3 : (List T_coded_Coded)) (v5 : T_coded_Coded) (t8 : (List T_coded_Coded)) (t9 : Int) (t10 : Int) (t25 : (List T_coded_Coded)) (t26 : Int) (t27 : Int) (r : (List T_coded_Coded)) (ρ : Nat → Slot) (H : List (Option (List D))) , simp_Flat_L2 k t3 v5 t8 t9 t10 t25 t26 t27 = some r → wpc (Ev P) (.loop a10_L2) (a10_q7 (retN a10.res (.list (r.map T_coded_Coded.enc)))) ⟨upds ρ [(3, .d (.own 27 (t3.map T_coded_Coded.enc))), (5, .var (T_coded_Coded.cells lw v5)), (8, .d (.list (t8.map T_coded_Coded.enc))), (9, .d (.int .i64 t9)), (10, .d (.int .i64 t10)), (25, .d (.list (t25.map T_coded_Coded.enc))), (26, .d (.int .i64 t26)), (27, .d (.int .i64 t27))], H⟩
structure C_simp_Flat (k : Nat) : Prop where
  simp_Flat : S_simp_Flat k
  simp_Flat_L1 : S_simp_Flat_L1 k
  simp_Flat_J1 : S_simp_Flat_J1 k
  simp_Flat_L2 : S_simp_Flat_L2 k
theorem t_simp_Flat (k : Nat) (ih : C_simp_Flat k) : S_simp_Flat (k + 1) := by
  intro x0 r h H0
  rw [simp_Flat] at h
  refine evc_intro a10 Go.Proofs.Tryd.func10 c10 (Nat.le_of_ble_eq_true rfl) (cl_cons rfl cl_nil) rfl ?_ H0
  generalize ([] : List (Option (List D))) = H
  show wpc (Ev P) a10_B (retN a10.res (.list (r.map T_coded_Coded.enc))) _
  refine c_seq ?_
  refine c_reg ?_
  refine o_mvk ?_
  refine o_nil ?_
  refine k_then ?_
  refine c_seq ?_
  refine c_reg ?_
  refine o_mvk ?_
  refine o_nil ?_
  refine k_then ?_
  refine c_seq ?_
  refine c_seq ?_
  refine c_reg ?_
  refine o_mvt rfl (copy_of_list _) ?_
  refine o_len_l (vt rfl (copy_of_list _)) (fun _ => ?_)
  refine o_mvk ?_
  refine o_nil ?_
  refine k_then ?_
  refine c_block ?_
  exact wpc_head (ih.simp_Flat_L1 _ _ _ _ _ _ _ h) ⟨rfl, rfl, rfl, rfl, trivial⟩
theorem t_simp_Flat_L1 (k : Nat) (ih : C_simp_Flat k) : S_simp_Flat_L1 (k + 1) := by
  intro t3 t8 t9 t10 r ρ H h
  rw [simp_Flat_L1] at h
  refine wpc_loop_i ?_
  refine c_seq ?_
  refine c_reg ?_
  refine o_bin (vt rfl (copy_of_int _ _)) (vt rfl (copy_of_int _ _)) bin_lss ?_
  refine o_nil ?_
  refine k_then ?_
  refine c_seq ?_
  by_cases c1 : (decide (t10 < t9)) = true
  · have h := it_t h c1
    refine c_cond_t (vt rfl (copy_of_bool _)) c1 ?_
    refine c_skip ?_
    refine k_then ?_
    refine c_seq ?_
    refine c_block ?_
    refine c_seq ?_
    refine c_reg ?_
    obtain ⟨y12, hy12, h⟩ := bind_some h
    refine o_ias (vt rfl (copy_of_list _)) (vt rfl (copy_of_int _ _)) hy12 (T_coded_Coded.enc_cells _) (T_coded_Coded.len lw _) ?_
    refine o_ldi rfl (cut_all (T_coded_Coded.len _ _)) (T_coded_Coded.copy wr_l _) ?_
    refine o_alloc (cs := T_coded_Coded.cells lw (T_coded_Coded.mk 0 [] (Arr.rep 4 0) [])) rfl ?_
    refine o_st rfl (lv_v rfl) (gt_ rfl (copy_of_agg _)) (cells_of_agg _) (T_coded_Coded.len _ _) (T_coded_Coded.one wr_l _) rfl (splice_all (n := 7) (T_coded_Coded.len _ _) (T_coded_Coded.len _ _)) ?_
    refine o_nil ?_
    refine k_then ?_
    refine c_seq ?_
    refine c_reg ?_
    refine o_fa (lv_v rfl) ?_
    refine o_ld1 (lv_l rfl) rfl (T_coded_Coded.cut_Kind lw _) (copy_of_int _ _) ?_
    refine o_nil ?_
    refine k_then ?_
    refine c_block ?_
    refine c_seq ?_
    refine c_reg ?_
    refine o_bin (vt rfl (copy_of_int _ _)) (vk (copy_of_int _ _)) bin_eql ?_
    refine o_mvt rfl (copy_of_bool _) ?_
    refine o_nil ?_
    refine k_then ?_
    by_cases c2 : (y12.Kind == 0) = true
    · have h := it_t h c2
      refine c_cond_t (vt rfl (copy_of_bool _)) c2 ?_
      refine c_skip ?_
      refine k_block _ ?_
      refine k_block _ ?_
      refine k_then ?_
      exact wpc_head (ih.simp_Flat_J1 _ _ _ _ _ _ _ h) ⟨rfl, rfl, rfl, rfl, trivial⟩
    · have c2 := bf c2
      have h := it_f h c2
      refine c_cond_f (vt rfl (copy_of_bool _)) c2 ?_
      refine c_seq ?_
      refine c_reg ?_
      refine o_bin (vt rfl (copy_of_int _ _)) (vk (copy_of_int _ _)) bin_eql ?_
      refine o_mvt rfl (copy_of_bool _) ?_
      refine o_nil ?_
      refine k_then ?_
      by_cases c3 : (y12.Kind == 4) = true
      · have h := it_t h c3
        refine c_cond_t (vt rfl (copy_of_bool _)) c3 ?_
        refine c_seq ?_
        refine c_reg ?_
        refine o_fa (lv_v rfl) ?_
        refine o_ld1 (lv_l rfl) rfl (T_coded_Coded.cut_L lw _) (Wr.copy wr_l _ _) ?_
        refine o_len_l (vt rfl (copy_of_list _)) (fun _ => ?_)
        refine o_mvk ?_
        refine o_nil ?_
        refine k_then ?_
        refine c_block ?_
        exact wpc_head (ih.simp_Flat_L2 _ _ _ _ _ _ _ _ _ _ _ h) ⟨rfl, rfl, rfl, rfl, rfl, rfl, rfl, rfl, trivial⟩
      · have c3 := bf c3
        have h := it_f h c3
        refine c_cond_f (vt rfl (copy_of_bool _)) c3 ?_
        refine c_reg ?_
        refine o_mvx rfl ?_
        refine o_ld (lv_v rfl) rfl (cut_all (T_coded_Coded.len _ _)) (T_coded_Coded.copy wr_l _) ?_
        refine o_bsl (f := T_coded_Coded.enc) (v_cons (vt rfl (copy_of_agg _)) v_nil) (l_cons (T_coded_Coded.enc_eq _).symm l_nil) T_coded_Coded.elem ?_
        obtain ⟨c4, h⟩ := need_some h
        refine o_app (f := T_coded_Coded.enc) (xs := t3) (ys := ([y12])) T_coded_Coded.elem rfl (vt rfl (copy_of_own _ _)) c4 ?_
        refine o_mvx rfl ?_
        refine o_nil ?_
        refine k_block _ ?_
        refine k_block _ ?_
        refine k_then ?_
        exact wpc_head (ih.simp_Flat_J1 _ _ _ _ _ _ _ h) ⟨rfl, rfl, rfl, rfl, trivial⟩
  · have c1 := bf c1
    have h := it_f h c1
    refine c_cond_f (vt rfl (copy_of_bool _)) c1 ?_
    refine c_exit ?_
    refine k_then_exit ?_
    refine k_then_exit ?_
    refine k_block_exit _ ?_
    refine k_then ?_
    refine c_seq ?_
    refine c_reg ?_
    refine o_mvt rfl (copy_of_own _ _) ?_
    refine o_mvt rfl (copy_of_list _) ?_
    refine o_nil ?_
    refine k_then ?_
    refine c_ret ?_
    obtain rfl := Option.some.inj h
    exact r_one rfl (res_t rfl (copy_of_list _)) (.inl rfl)
theorem t_simp_Flat_J1 (k : Nat) (ih : C_simp_Flat k) : S_simp_Flat_J1 (k + 1) := by
  intro t3 t8 t9 t10 r ρ H h
  rw [simp_Flat_J1] at h
  refine c_reg ?_
  refine o_bin (vt rfl (copy_of_int _ _)) (vk (copy_of_int _ _)) bin_add ?_
  refine o_mvt rfl (copy_of_int _ _) ?_
  refine o_nil ?_
  refine k_then ?_
  exact wpc_head (ih.simp_Flat_L1 _ _ _ _ _ _ _ h) ⟨rfl, rfl, rfl, rfl, trivial⟩
theorem t_simp_Flat_L2 (k : Nat) (ih : C_simp_Flat k) : S_simp_Flat_L2 (k + 1) := by
  intro t3 v5 t8 t9 t10 t25 t26 t27 r ρ H h
  rw [simp_Flat_L2] at h
  refine wpc_loop_i ?_
  refine c_seq ?_
  refine c_reg ?_
  refine o_bin (vt rfl (copy_of_int _ _)) (vt rfl (copy_of_int _ _)) bin_lss ?_
  refine o_nil ?_
  refine k_then ?_
  refine c_seq ?_
  by_cases c1 : (decide (t27 < t26)) = true
  · have h := it_t h c1
    refine c_cond_t (vt rfl (copy_of_bool _)) c1 ?_
    refine c_skip ?_
    refine k_then ?_
    refine c_seq ?_
    refine c_block ?_
    refine c_seq ?_
    refine c_reg ?_
    obtain ⟨y29, hy29, h⟩ := bind_some h
    refine o_ias (vt rfl (copy_of_list _)) (vt rfl (copy_of_int _ _)) hy29 (T_coded_Coded.enc_cells _) (T_coded_Coded.len lw _) ?_
    refine o_ldi rfl (cut_all (T_coded_Coded.len _ _)) (T_coded_Coded.copy wr_l _) ?_
    refine o_alloc (cs := T_coded_Coded.cells lw (T_coded_Coded.mk 0 [] (Arr.rep 4 0) [])) rfl ?_
    refine o_st rfl (lv_v rfl) (gt_ rfl (copy_of_agg _)) (cells_of_agg _) (T_coded_Coded.len _ _) (T_coded_Coded.one wr_l _) rfl (splice_all (n := 7) (T_coded_Coded.len _ _) (T_coded_Coded.len _ _)) ?_
    refine o_nil ?_
    refine k_then ?_
    refine c_reg ?_
    refine o_mvx rfl ?_
    refine o_fa (lv_v rfl) ?_
    refine o_ld1 (lv_l rfl) rfl (T_coded_Coded.cut_Bits lw _) (copy_of_str _) ?_
    refine o_ld (lv_v rfl) rfl (cut_all (T_coded_Coded.len _ _)) (T_coded_Coded.copy wr_l _) ?_
    obtain ⟨y35, hy35, h⟩ := bind_some h
    refine o_call rfl (g_cons (gt_ rfl (copy_of_str _)) (g_cons (gt_ rfl (copy_of_agg _)) g_nil)) (s_simp_fuse k _ _ _ hy35 _) ?_
    refine o_bsl (f := T_coded_Coded.enc) (v_cons (vt rfl (copy_of_agg _)) v_nil) (l_cons (T_coded_Coded.enc_eq _).symm l_nil) T_coded_Coded.elem ?_
    obtain ⟨c2, h⟩ := need_some h
    refine o_app (f := T_coded_Coded.enc) (xs := t3) (ys := ([y35])) T_coded_Coded.elem rfl (vt rfl (copy_of_own _ _)) c2 ?_
    refine o_mvx rfl ?_
    refine o_nil ?_
    refine k_block _ ?_
    refine k_then ?_
    refine c_reg ?_
    refine o_bin (vt rfl (copy_of_int _ _)) (vk (copy_of_int _ _)) bin_add ?_
    refine o_mvt rfl (copy_of_int _ _) ?_
    refine o_nil ?_
    refine k_then ?_
    exact wpc_head (ih.simp_Flat_L2 _ _ _ _ _ _ _ _ _ _ _ h) ⟨rfl, rfl, rfl, rfl, rfl, rfl, rfl, rfl, trivial⟩
  · have c1 := bf c1
    have h := it_f h c1
    refine c_cond_f (vt rfl (copy_of_bool _)) c1 ?_
    refine c_exit ?_
    refine k_then_exit ?_
    refine k_then_exit ?_
    refine k_block_exit _ ?_
    refine k_block _ ?_
    refine k_block _ ?_
    refine k_then ?_
    exact wpc_head (ih.simp_Flat_J1 _ _ _ _ _ _ _ h) ⟨rfl, rfl, rfl, rfl, trivial⟩
theorem z_simp_Flat : S_simp_Flat 0 := by
  intro x0 r h H
  rw [simp_Flat] at h; cases h
theorem z_simp_Flat_L1 : S_simp_Flat_L1 0 := by
  intro t3 t8 t9 t10 r ρ H h
  rw [simp_Flat_L1] at h; cases h
theorem z_simp_Flat_J1 : S_simp_Flat_J1 0 := by
  intro t3 t8 t9 t10 r ρ H h
  rw [simp_Flat_J1] at h; cases h
theorem z_simp_Flat_L2 : S_simp_Flat_L2 0 := by
  intro t3 v5 t8 t9 t10 t25 t26 t27 r ρ H h
  rw [simp_Flat_L2] at h; cases h
theorem C_simp_Flat.all : ∀ k, C_simp_Flat k
  | 0 => ⟨z_simp_Flat, z_simp_Flat_L1, z_simp_Flat_J1, z_simp_Flat_L2⟩
  | k + 1 => ⟨t_simp_Flat k (C_simp_Flat.all k), t_simp_Flat_L1 k (C_simp_Flat.all k), t_simp_Flat_J1 k (C_simp_Flat.all k), t_simp_Flat_L2 k (C_simp_Flat.all k)⟩
theorem s_simp_Flat (k : Nat) : S_simp_Flat k := (C_simp_Flat.all k).simp_Flat
end Go.Am
