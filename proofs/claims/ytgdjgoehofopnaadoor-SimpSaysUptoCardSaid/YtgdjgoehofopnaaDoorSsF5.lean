/- Functions over typed data, and that the program comes to their answers: printed by a program of this session. -/
import Derived.Test.YtgdjgoehofopnaaDoorSsF4
set_option linter.unusedSimpArgs false
set_option linter.unusedVariables false
set_option maxRecDepth 10000
namespace Go.Am
open Go
def a66_r0 : List AI := [
  { dst := some 1, op := .box (.t 0) },
  { dst := some 2, op := .mv (.k (.bool false)) }]
def a66_r1 : List AI := [
  { dst := some 6, op := .fa 1 258 },
  { dst := some 7, op := .ld none 6 },
  { dst := some 8, op := .len false (.t 7) },
  { dst := some 3, op := .mv (.t 8) }]
def a66_r2 : List AI := [
  { dst := some 9, op := .fa 1 0 },
  { dst := some 10, op := .ld none 9 },
  { dst := some 11, op := .bin .lss (.t 10) (.k (.int .i64 0)) },
  { dst := some 12, op := .mv (.t 11) },
  { dst := some 13, g := some (12, false), op := .fa 1 0 },
  { dst := some 14, g := some (12, false), op := .ld none 13 },
  { dst := some 15, g := some (12, false), op := .bin .gtr (.t 14) (.k (.int .i64 5)) },
  { dst := some 16, op := .pick (.t 12) (.k (.bool true)) (.t 15) },
  { dst := some 17, op := .mv (.t 16) },
  { dst := some 18, g := some (17, false), op := .fa 1 0 },
  { dst := some 19, g := some (17, false), op := .ld none 18 },
  { dst := some 20, g := some (17, false), op := .bin .lss (.t 19) (.k (.int .i64 3)) },
  { dst := some 21, g := some (17, false), op := .mv (.t 20) },
  { dst := some 22, g := some (21, true), op := .mv (.t 3) },
  { dst := some 23, g := some (21, true), op := .bin .gtr (.t 22) (.k (.int .i64 0)) },
  { dst := some 24, g := some (17, false), op := .pick (.t 21) (.t 23) (.k (.bool false)) },
  { dst := some 25, op := .pick (.t 17) (.k (.bool true)) (.t 24) },
  { dst := some 26, op := .mv (.t 25) },
  { dst := some 27, g := some (26, false), op := .fa 1 0 },
  { dst := some 28, g := some (26, false), op := .ld none 27 },
  { dst := some 29, g := some (26, false), op := .bin .eql (.t 28) (.k (.int .i64 3)) },
  { dst := some 30, g := some (26, false), op := .mv (.t 29) },
  { dst := some 31, g := some (30, true), op := .mv (.t 3) },
  { dst := some 32, g := some (30, true), op := .bin .neq (.t 31) (.k (.int .i64 2)) },
  { dst := some 33, g := some (26, false), op := .pick (.t 30) (.t 32) (.k (.bool false)) },
  { dst := some 34, op := .pick (.t 26) (.k (.bool true)) (.t 33) },
  { dst := some 35, op := .mv (.t 34) },
  { dst := some 36, g := some (35, false), op := .fa 1 0 },
  { dst := some 37, g := some (35, false), op := .ld none 36 },
  { dst := some 38, g := some (35, false), op := .bin .eql (.t 37) (.k (.int .i64 5)) },
  { dst := some 39, g := some (35, false), op := .mv (.t 38) },
  { dst := some 40, g := some (39, true), op := .mv (.t 3) },
  { dst := some 41, g := some (39, true), op := .bin .neq (.t 40) (.k (.int .i64 1)) },
  { dst := some 42, g := some (35, false), op := .pick (.t 39) (.t 41) (.k (.bool false)) },
  { dst := some 43, op := .pick (.t 35) (.k (.bool true)) (.t 42) },
  { dst := some 44, op := .mv (.t 43) },
  { dst := some 45, g := some (44, false), op := .fa 1 0 },
  { dst := some 46, g := some (44, false), op := .ld none 45 },
  { dst := some 47, g := some (44, false), op := .bin .neq (.t 46) (.k (.int .i64 2)) },
  { dst := some 48, g := some (44, false), op := .mv (.t 47) },
  { dst := some 49, g := some (48, true), op := .fa 1 2 },
  { dst := some 50, g := some (48, true), op := .ld (some 256) 49 },
  { dst := some 51, g := some (48, true), op := .build (List.replicate 256 (.bool false)) [] },
  { dst := some 52, g := some (48, true), op := .eqv true .bool 256 (.t 50) (.t 51) },
  { dst := some 53, g := some (44, false), op := .pick (.t 48) (.t 52) (.k (.bool false)) },
  { dst := some 54, op := .pick (.t 44) (.k (.bool true)) (.t 53) },
  { dst := some 55, op := .mv (.t 54) },
  { dst := some 56, g := some (55, false), op := .fa 1 0 },
  { dst := some 57, g := some (55, false), op := .ld none 56 },
  { dst := some 58, g := some (55, false), op := .bin .eql (.t 57) (.k (.int .i64 0)) },
  { dst := some 59, g := some (55, false), op := .mv (.t 58) },
  { dst := some 60, g := some (59, true), op := .fa 1 1 },
  { dst := some 61, g := some (59, true), op := .ld none 60 },
  { dst := some 62, g := some (59, true), op := .bin .neq (.t 61) (.k (.str [])) },
  { dst := some 63, g := some (55, false), op := .pick (.t 59) (.t 62) (.k (.bool false)) },
  { dst := some 64, op := .pick (.t 55) (.k (.bool true)) (.t 63) }]
def a66_r3 : List AI := [
  { dst := some 2, op := .mv (.k (.bool false)) }]
def a66_k1 : AC := (.cond (.t 64) (.seq (.reg a66_r3) .ret) .skip)
def a66_r4 : List AI := [
  { dst := some 4, op := .mv (.k (.int .i64 0)) }]
def a66_r5 : List AI := [
  { dst := some 65, op := .mv (.t 4) },
  { dst := some 66, op := .fa 1 1 },
  { dst := some 67, op := .ld none 66 },
  { dst := some 68, op := .len true (.t 67) },
  { dst := some 69, op := .bin .lss (.t 65) (.t 68) }]
def a66_k2 : AC := (.cond (.t 69) .skip (.exit 0))
def a66_r7 : List AI := [
  { dst := some 72, op := .fa 1 1 },
  { dst := some 73, op := .ld none 72 },
  { dst := some 74, op := .mv (.t 4) },
  { dst := some 75, op := .ixs (.t 73) (.t 74) },
  { dst := some 76, op := .bin .neq (.t 75) (.k (.int .u8 48)) },
  { dst := some 77, op := .mv (.t 76) },
  { dst := some 78, g := some (77, true), op := .fa 1 1 },
  { dst := some 79, g := some (77, true), op := .ld none 78 },
  { dst := some 80, g := some (77, true), op := .mv (.t 4) },
  { dst := some 81, g := some (77, true), op := .ixs (.t 79) (.t 80) },
  { dst := some 82, g := some (77, true), op := .bin .neq (.t 81) (.k (.int .u8 49)) },
  { dst := some 83, op := .pick (.t 77) (.t 82) (.k (.bool false)) }]
def a66_r8 : List AI := [
  { dst := some 2, op := .mv (.k (.bool false)) }]
def a66_k3 : AC := (.cond (.t 83) (.seq (.reg a66_r8) .ret) .skip)
def a66_r6 : List AI := [
  { dst := some 70, op := .mv (.t 4) },
  { dst := some 71, op := .bin .add (.t 70) (.k (.int .i64 1)) },
  { dst := some 4, op := .mv (.t 71) }]
def a66_k4 : AC := (.seq (.block 1 (.seq (.reg a66_r7) a66_k3)) (.reg a66_r6))
def a66_L1 : AC := (.seq (.seq (.reg a66_r5) a66_k2) a66_k4)
def a66_k5 : AC := (.block 0 (.loop a66_L1))
def a66_r9 : List AI := [
  { dst := some 5, op := .mv (.k (.int .i64 0)) }]
def a66_r10 : List AI := [
  { dst := some 84, op := .mv (.t 5) },
  { dst := some 85, op := .mv (.t 3) },
  { dst := some 86, op := .bin .lss (.t 84) (.t 85) }]
def a66_k6 : AC := (.cond (.t 86) .skip (.exit 2))
def a66_r12 : List AI := [
  { dst := some 89, op := .fa 1 258 },
  { dst := some 90, op := .ld none 89 },
  { dst := some 91, op := .mv (.t 5) },
  { dst := some 92, op := .ias 259 (.t 90) (.t 91) },
  { dst := some 93, op := .ld (some 259) 92 },
  { dst := some 94, op := .call 66 [(.t 93)] },
  { dst := some 95, op := .un .not (.t 94) }]
def a66_r13 : List AI := [
  { dst := some 2, op := .mv (.k (.bool false)) }]
def a66_k7 : AC := (.cond (.t 95) (.seq (.reg a66_r13) .ret) .skip)
def a66_r11 : List AI := [
  { dst := some 87, op := .mv (.t 5) },
  { dst := some 88, op := .bin .add (.t 87) (.k (.int .i64 1)) },
  { dst := some 5, op := .mv (.t 88) }]
def a66_k8 : AC := (.seq (.block 3 (.seq (.reg a66_r12) a66_k7)) (.reg a66_r11))
def a66_L2 : AC := (.seq (.seq (.reg a66_r10) a66_k6) a66_k8)
def a66_k9 : AC := (.block 2 (.loop a66_L2))
def a66_r14 : List AI := [
  { dst := some 2, op := .mv (.k (.bool true)) }]
def a66_k10 : AC := (.seq (.reg a66_r14) .ret)
def a66_k11 : AC := (.seq (.seq (.reg a66_r9) a66_k9) a66_k10)
def a66_k12 : AC := (.seq (.seq (.reg a66_r4) a66_k5) a66_k11)
def a66_k13 : AC := (.seq (.seq (.reg a66_r2) a66_k1) a66_k12)
def a66_k14 : AC := (.seq (.reg a66_r1) a66_k13)
def a66_B : AC := (.seq (.reg a66_r0) a66_k14)
/-- catchpole/catchpoleref17.formed -/
def a66 : AF := { N := 96, V := [1], body := a66_B, res := [.t 2] }
theorem c66 : chkF P a66 Go.Proofs.Tryd.f66 = true := by kernel_rfl
mutual
/-- catchpole/catchpoleref17.formed -/
def ref17_formed (k : Nat) (x0 : T_ref17_Coded) : Option Bool := match k with
  | 0 => none
  | k + 1 =>
    if (((((((decide (x0.Kind < 0)) || (decide (x0.Kind > 5))) || ((decide (x0.Kind < 3)) && (decide ((x0.L.length : Int) > 0)))) || ((x0.Kind == 3) && ((x0.L.length : Int) != 2))) || ((x0.Kind == 5) && ((x0.L.length : Int) != 1))) || ((x0.Kind != 2) && (!(x0.Set == (Arr.rep 256 false))))) || ((x0.Kind == 0) && (!(x0.Bits == ([] : List UInt8))))) = true then (some false)
    else ref17_formed_L1 k x0 (x0.L.length : Int) 0
def ref17_formed_L1 (k : Nat) (v1 : T_ref17_Coded) (t3 : Int) (t4 : Int) : Option Bool := match k with
  | 0 => none
  | k + 1 =>
    if (decide (t4 < (v1.Bits.length : Int))) = true then ((at_ v1.Bits t4).bind fun y75 =>
    if ((y75.toNat : Int) != 48) = true then ((at_ v1.Bits t4).bind fun y81 =>
    ref17_formed_J1 k v1 t3 t4 ((y81.toNat : Int) != 49))
    else ref17_formed_J1 k v1 t3 t4 false)
    else ref17_formed_L2 k v1 t3 0
def ref17_formed_J1 (k : Nat) (v1 : T_ref17_Coded) (t3 : Int) (t4 : Int) (t83 : Bool) : Option Bool := match k with
  | 0 => none
  | k + 1 =>
    if t83 = true then (some false)
    else ref17_formed_L1 k v1 t3 (IntKind.i64.wrap (t4 + 1))
def ref17_formed_L2 (k : Nat) (v1 : T_ref17_Coded) (t3 : Int) (t5 : Int) : Option Bool := match k with
  | 0 => none
  | k + 1 =>
    if (decide (t5 < t3)) = true then ((at_ v1.L t5).bind fun y92 =>
    (ref17_formed k y92).bind fun y94 =>
    if (!y94) = true then (some false)
    else ref17_formed_L2 k v1 t3 (IntKind.i64.wrap (t5 + 1)))
    else some true
end
def a66_q1 (R : Ex → St → Prop) : Ex → St → Prop := Ex.then (wpc (Ev P) a66_k12 R) R
def a66_q2 (R : Ex → St → Prop) : Ex → St → Prop := Ex.then (wpc (Ev P) a66_k1 (a66_q1 R)) (a66_q1 R)
def a66_q3 (R : Ex → St → Prop) : Ex → St → Prop := Ex.then (wpc (Ev P) a66_k11 R) R
def a66_q4 (R : Ex → St → Prop) : Ex → St → Prop := Ex.inBlock 0 (a66_q3 R)
def a66_q5 (R : Ex → St → Prop) : Ex → St → Prop := Ex.then (wpc (Ev P) (.loop a66_L1) (a66_q4 R)) (a66_q4 R)
def a66_q6 (R : Ex → St → Prop) : Ex → St → Prop := Ex.then (wpc (Ev P) (.reg a66_r6) (a66_q5 R)) (a66_q5 R)
def a66_q7 (R : Ex → St → Prop) : Ex → St → Prop := Ex.inBlock 1 (a66_q6 R)
def a66_q8 (R : Ex → St → Prop) : Ex → St → Prop := Ex.then (wpc (Ev P) a66_k10 R) R
def a66_q9 (R : Ex → St → Prop) : Ex → St → Prop := Ex.inBlock 2 (a66_q8 R)
def S_ref17_formed (k : Nat) : Prop := ∀ (x0 : T_ref17_Coded) (r : Bool), ref17_formed k x0 = some r → ∀ H, Ev P 66 [(.agg (T_ref17_Coded.cells lw x0))] H (.bool r) H
def S_ref17_formed_L1 (k : Nat) : Prop := ∀ (v1 : T_ref17_Coded) (t3 : Int) (t4 : Int) (r : Bool) (ρ : Nat → Slot) (H : List (Option (List D))) , ref17_formed_L1 k v1 t3 t4 = some r → wpc (Ev P) (.loop a66_L1) (a66_q4 (retN a66.res (.bool r))) ⟨upds ρ [(1, .var (T_ref17_Coded.cells lw v1)), (3, .d (.int .i64 t3)), (4, .d (.int .i64 t4))], H⟩
def S_ref17_formed_J1 (k : Nat) : Prop := ∀ (v1 : T_ref17_Coded) (t3 : Int) (t4 : Int) (t83 : Bool) (r : Bool) (ρ : Nat → Slot) (H : List (Option (List D))) , ref17_formed_J1 k v1 t3 t4 t83 = some r → wpc (Ev P) a66_k3 (a66_q7 (retN a66.res (.bool r))) ⟨upds ρ [(1, .var (T_ref17_Coded.cells lw v1)), (3, .d (.int .i64 t3)), (4, .d (.int .i64 t4)), (83, .d (.bool t83))], H⟩
def S_ref17_formed_L2 (k : Nat) : Prop := ∀ (v1 : T_ref17_Coded) (t3 : Int) (t5 : Int) (r : Bool) (ρ : Nat → Slot) (H : List (Option (List D))) , ref17_formed_L2 k v1 t3 t5 = some r → wpc (Ev P) (.loop a66_L2) (a66_q9 (retN a66.res (.bool r))) ⟨upds ρ [(1, .var (T_ref17_Coded.cells lw v1)), (3, .d (.int .i64 t3)), (5, .d (.int .i64 t5))], H⟩
structure C_ref17_formed (k : Nat) : Prop where
  ref17_formed : S_ref17_formed k
  ref17_formed_L1 : S_ref17_formed_L1 k
  ref17_formed_J1 : S_ref17_formed_J1 k
  ref17_formed_L2 : S_ref17_formed_L2 k
theorem t_ref17_formed (k : Nat) (ih : C_ref17_formed k) : S_ref17_formed (k + 1) := by
  intro x0 r h H0
  rw [ref17_formed] at h
  refine evc_intro a66 Go.Proofs.Tryd.func66 c66 (Nat.le_of_ble_eq_true rfl) (cl_cons (T_ref17_Coded.closed _) cl_nil) rfl ?_ H0
  generalize ([] : List (Option (List D))) = H
  show wpc (Ev P) a66_B (retN a66.res (.bool r)) _
  refine c_seq ?_
  refine c_reg ?_
  refine o_box (vt rfl (copy_of_agg _)) (T_ref17_Coded.one wr_l _) (T_ref17_Coded.copy wr_l _) ?_
  refine o_mvk ?_
  refine o_nil ?_
  refine k_then ?_
  refine c_seq ?_
  refine c_reg ?_
  refine o_fa (lv_v rfl) ?_
  refine o_ld1 (lv_l rfl) rfl (T_ref17_Coded.cut_L lw _) (Wr.copy wr_l _ _) ?_
  refine o_len_l (vt rfl (copy_of_list _)) (fun _ => ?_)
  refine o_mvt rfl (copy_of_int _ _) ?_
  refine o_nil ?_
  refine k_then ?_
  refine c_seq ?_
  refine c_seq ?_
  refine c_reg ?_
  refine o_fa (lv_v rfl) ?_
  refine o_ld1 (lv_l rfl) rfl (T_ref17_Coded.cut_Kind lw _) (copy_of_int _ _) ?_
  refine o_bin (vt rfl (copy_of_int _ _)) (vk (copy_of_int _ _)) bin_lss ?_
  refine o_mvt rfl (copy_of_bool _) ?_
  have key1 : ∀ ρ : Nat → Slot, wpo (Ev P) (a66_r2.drop 8) ((a66_q2 (retN a66.res (.bool r))) .normal) ⟨upds ρ [(1, .var (T_ref17_Coded.cells lw x0)), (3, .d (.int .i64 (x0.L.length : Int))), (16, .d (.bool ((decide (x0.Kind < 0)) || (decide (x0.Kind > 5)))))], H⟩ := by
    intro ρ
    refine o_mvt rfl (copy_of_bool _) ?_
    have key3 : ∀ ρ : Nat → Slot, wpo (Ev P) (a66_r2.drop 17) ((a66_q2 (retN a66.res (.bool r))) .normal) ⟨upds ρ [(1, .var (T_ref17_Coded.cells lw x0)), (3, .d (.int .i64 (x0.L.length : Int))), (25, .d (.bool (((decide (x0.Kind < 0)) || (decide (x0.Kind > 5))) || ((decide (x0.Kind < 3)) && (decide ((x0.L.length : Int) > 0))))))], H⟩ := by
      intro ρ
      refine o_mvt rfl (copy_of_bool _) ?_
      have key5 : ∀ ρ : Nat → Slot, wpo (Ev P) (a66_r2.drop 26) ((a66_q2 (retN a66.res (.bool r))) .normal) ⟨upds ρ [(1, .var (T_ref17_Coded.cells lw x0)), (3, .d (.int .i64 (x0.L.length : Int))), (34, .d (.bool ((((decide (x0.Kind < 0)) || (decide (x0.Kind > 5))) || ((decide (x0.Kind < 3)) && (decide ((x0.L.length : Int) > 0)))) || ((x0.Kind == 3) && ((x0.L.length : Int) != 2)))))], H⟩ := by
        intro ρ
        refine o_mvt rfl (copy_of_bool _) ?_
        have key7 : ∀ ρ : Nat → Slot, wpo (Ev P) (a66_r2.drop 35) ((a66_q2 (retN a66.res (.bool r))) .normal) ⟨upds ρ [(1, .var (T_ref17_Coded.cells lw x0)), (3, .d (.int .i64 (x0.L.length : Int))), (43, .d (.bool (((((decide (x0.Kind < 0)) || (decide (x0.Kind > 5))) || ((decide (x0.Kind < 3)) && (decide ((x0.L.length : Int) > 0)))) || ((x0.Kind == 3) && ((x0.L.length : Int) != 2))) || ((x0.Kind == 5) && ((x0.L.length : Int) != 1)))))], H⟩ := by
          intro ρ
          refine o_mvt rfl (copy_of_bool _) ?_
          have key9 : ∀ ρ : Nat → Slot, wpo (Ev P) (a66_r2.drop 46) ((a66_q2 (retN a66.res (.bool r))) .normal) ⟨upds ρ [(1, .var (T_ref17_Coded.cells lw x0)), (3, .d (.int .i64 (x0.L.length : Int))), (54, .d (.bool ((((((decide (x0.Kind < 0)) || (decide (x0.Kind > 5))) || ((decide (x0.Kind < 3)) && (decide ((x0.L.length : Int) > 0)))) || ((x0.Kind == 3) && ((x0.L.length : Int) != 2))) || ((x0.Kind == 5) && ((x0.L.length : Int) != 1))) || ((x0.Kind != 2) && (!(x0.Set == (Arr.rep 256 false)))))))], H⟩ := by
            intro ρ
            refine o_mvt rfl (copy_of_bool _) ?_
            have key11 : ∀ ρ : Nat → Slot, wpo (Ev P) (a66_r2.drop 56) ((a66_q2 (retN a66.res (.bool r))) .normal) ⟨upds ρ [(1, .var (T_ref17_Coded.cells lw x0)), (3, .d (.int .i64 (x0.L.length : Int))), (64, .d (.bool (((((((decide (x0.Kind < 0)) || (decide (x0.Kind > 5))) || ((decide (x0.Kind < 3)) && (decide ((x0.L.length : Int) > 0)))) || ((x0.Kind == 3) && ((x0.L.length : Int) != 2))) || ((x0.Kind == 5) && ((x0.L.length : Int) != 1))) || ((x0.Kind != 2) && (!(x0.Set == (Arr.rep 256 false))))) || ((x0.Kind == 0) && (!(x0.Bits == ([] : List UInt8)))))))], H⟩ := by
              intro ρ
              refine o_nil ?_
              refine k_then ?_
              by_cases c13 : (((((((decide (x0.Kind < 0)) || (decide (x0.Kind > 5))) || ((decide (x0.Kind < 3)) && (decide ((x0.L.length : Int) > 0)))) || ((x0.Kind == 3) && ((x0.L.length : Int) != 2))) || ((x0.Kind == 5) && ((x0.L.length : Int) != 1))) || ((x0.Kind != 2) && (!(x0.Set == (Arr.rep 256 false))))) || ((x0.Kind == 0) && (!(x0.Bits == ([] : List UInt8))))) = true
              · have h := it_t h c13
                refine c_cond_t (vt rfl (copy_of_bool _)) c13 ?_
                refine c_seq ?_
                refine c_reg ?_
                refine o_mvk ?_
                refine o_nil ?_
                refine k_then ?_
                refine c_ret ?_
                refine k_then_ret ?_
                obtain rfl := Option.some.inj h
                exact r_one rfl (res_t rfl (copy_of_bool _)) (.inl rfl)
              · have c13 := bf c13
                have h := it_f h c13
                refine c_cond_f (vt rfl (copy_of_bool _)) c13 ?_
                refine c_skip ?_
                refine k_then ?_
                refine c_seq ?_
                refine c_seq ?_
                refine c_reg ?_
                refine o_mvk ?_
                refine o_nil ?_
                refine k_then ?_
                refine c_block ?_
                exact wpc_head (ih.ref17_formed_L1 _ _ _ _ _ _ h) ⟨rfl, rfl, rfl, trivial⟩
            by_cases c12 : ((((((decide (x0.Kind < 0)) || (decide (x0.Kind > 5))) || ((decide (x0.Kind < 3)) && (decide ((x0.L.length : Int) > 0)))) || ((x0.Kind == 3) && ((x0.L.length : Int) != 2))) || ((x0.Kind == 5) && ((x0.L.length : Int) != 1))) || ((x0.Kind != 2) && (!(x0.Set == (Arr.rep 256 false))))) = true
            · clear h
              refine o_g_f rfl (ne_t c12) ?_
              refine o_g_f rfl (ne_t c12) ?_
              refine o_g_f rfl (ne_t c12) ?_
              refine o_g_f rfl (ne_t c12) ?_
              refine o_g_n rfl ?_
              refine o_g_n rfl ?_
              refine o_g_n rfl ?_
              refine o_g_f rfl (ne_t c12) ?_
              refine o_pick_t (vt rfl (copy_of_bool _)) c12 (vk (copy_of_bool _)) ?_
              exact wpo_head (key11 _) ⟨rfl, rfl, (by simp only [c12]; rfl), trivial⟩
            · clear h
              have c12 := bf c12
              refine o_g_t rfl c12 ?_
              refine o_fa (lv_v rfl) ?_
              refine o_g_t rfl c12 ?_
              refine o_ld1 (lv_l rfl) rfl (T_ref17_Coded.cut_Kind lw _) (copy_of_int _ _) ?_
              refine o_g_t rfl c12 ?_
              refine o_bin (vt rfl (copy_of_int _ _)) (vk (copy_of_int _ _)) bin_eql ?_
              refine o_g_t rfl c12 ?_
              refine o_mvt rfl (copy_of_bool _) ?_
              by_cases c14 : (x0.Kind == 0) = true
              · skip
                refine o_g_t rfl c14 ?_
                refine o_fa (lv_v rfl) ?_
                refine o_g_t rfl c14 ?_
                refine o_ld1 (lv_l rfl) rfl (T_ref17_Coded.cut_Bits lw _) (copy_of_str _) ?_
                refine o_g_t rfl c14 ?_
                refine o_bin (vt rfl (copy_of_str _)) (vk (copy_of_str _)) bin_sneq ?_
                refine o_g_t rfl c12 ?_
                refine o_pick_t (vt rfl (copy_of_bool _)) c14 (vt rfl (copy_of_bool _)) ?_
                refine o_pick_f (vt rfl (copy_of_bool _)) c12 (vt rfl (copy_of_bool _)) ?_
                exact wpo_head (key11 _) ⟨rfl, rfl, (by simp only [c12, c14]; rfl), trivial⟩
              · have c14 := bf c14
                refine o_g_f rfl (ne_f c14) ?_
                refine o_g_f rfl (ne_f c14) ?_
                refine o_g_f rfl (ne_f c14) ?_
                refine o_g_t rfl c12 ?_
                refine o_pick_f (vt rfl (copy_of_bool _)) c14 (vk (copy_of_bool _)) ?_
                refine o_pick_f (vt rfl (copy_of_bool _)) c12 (vt rfl (copy_of_bool _)) ?_
                exact wpo_head (key11 _) ⟨rfl, rfl, (by simp only [c12, c14]; rfl), trivial⟩
          by_cases c10 : (((((decide (x0.Kind < 0)) || (decide (x0.Kind > 5))) || ((decide (x0.Kind < 3)) && (decide ((x0.L.length : Int) > 0)))) || ((x0.Kind == 3) && ((x0.L.length : Int) != 2))) || ((x0.Kind == 5) && ((x0.L.length : Int) != 1))) = true
          · clear h
            refine o_g_f rfl (ne_t c10) ?_
            refine o_g_f rfl (ne_t c10) ?_
            refine o_g_f rfl (ne_t c10) ?_
            refine o_g_f rfl (ne_t c10) ?_
            refine o_g_n rfl ?_
            refine o_g_n rfl ?_
            refine o_g_n rfl ?_
            refine o_g_n rfl ?_
            refine o_g_f rfl (ne_t c10) ?_
            refine o_pick_t (vt rfl (copy_of_bool _)) c10 (vk (copy_of_bool _)) ?_
            exact wpo_head (key9 _) ⟨rfl, rfl, (by simp only [c10]; rfl), trivial⟩
          · clear h
            have c10 := bf c10
            refine o_g_t rfl c10 ?_
            refine o_fa (lv_v rfl) ?_
            refine o_g_t rfl c10 ?_
            refine o_ld1 (lv_l rfl) rfl (T_ref17_Coded.cut_Kind lw _) (copy_of_int _ _) ?_
            refine o_g_t rfl c10 ?_
            refine o_bin (vt rfl (copy_of_int _ _)) (vk (copy_of_int _ _)) bin_neq ?_
            refine o_g_t rfl c10 ?_
            refine o_mvt rfl (copy_of_bool _) ?_
            by_cases c15 : (x0.Kind != 2) = true
            · skip
              refine o_g_t rfl c15 ?_
              refine o_fa (lv_v rfl) ?_
              refine o_g_t rfl c15 ?_
              refine o_ld (lv_l rfl) rfl (T_ref17_Coded.cut_Set lw _) cm_bool ?_
              refine o_g_t rfl c15 ?_
              refine o_build (fill_z (z' := (Arr.rep 256 false).l.map D.bool) (by simp [Arr.rep, lw, ow]) fill_nil) ?_
              refine o_g_t rfl c15 ?_
              refine o_nev (vt rfl (copy_of_agg _)) (vt rfl (copy_of_agg _)) deq_arr_bool ?_
              refine o_g_t rfl c10 ?_
              refine o_pick_t (vt rfl (copy_of_bool _)) c15 (vt rfl (copy_of_bool _)) ?_
              refine o_pick_f (vt rfl (copy_of_bool _)) c10 (vt rfl (copy_of_bool _)) ?_
              exact wpo_head (key9 _) ⟨rfl, rfl, (by simp only [c10, c15]; rfl), trivial⟩
            · have c15 := bf c15
              refine o_g_f rfl (ne_f c15) ?_
              refine o_g_f rfl (ne_f c15) ?_
              refine o_g_f rfl (ne_f c15) ?_
              refine o_g_f rfl (ne_f c15) ?_
              refine o_g_t rfl c10 ?_
              refine o_pick_f (vt rfl (copy_of_bool _)) c15 (vk (copy_of_bool _)) ?_
              refine o_pick_f (vt rfl (copy_of_bool _)) c10 (vt rfl (copy_of_bool _)) ?_
              exact wpo_head (key9 _) ⟨rfl, rfl, (by simp only [c10, c15]; rfl), trivial⟩
        by_cases c8 : ((((decide (x0.Kind < 0)) || (decide (x0.Kind > 5))) || ((decide (x0.Kind < 3)) && (decide ((x0.L.length : Int) > 0)))) || ((x0.Kind == 3) && ((x0.L.length : Int) != 2))) = true
        · clear h
          refine o_g_f rfl (ne_t c8) ?_
          refine o_g_f rfl (ne_t c8) ?_
          refine o_g_f rfl (ne_t c8) ?_
          refine o_g_f rfl (ne_t c8) ?_
          refine o_g_n rfl ?_
          refine o_g_n rfl ?_
          refine o_g_f rfl (ne_t c8) ?_
          refine o_pick_t (vt rfl (copy_of_bool _)) c8 (vk (copy_of_bool _)) ?_
          exact wpo_head (key7 _) ⟨rfl, rfl, (by simp only [c8]; rfl), trivial⟩
        · clear h
          have c8 := bf c8
          refine o_g_t rfl c8 ?_
          refine o_fa (lv_v rfl) ?_
          refine o_g_t rfl c8 ?_
          refine o_ld1 (lv_l rfl) rfl (T_ref17_Coded.cut_Kind lw _) (copy_of_int _ _) ?_
          refine o_g_t rfl c8 ?_
          refine o_bin (vt rfl (copy_of_int _ _)) (vk (copy_of_int _ _)) bin_eql ?_
          refine o_g_t rfl c8 ?_
          refine o_mvt rfl (copy_of_bool _) ?_
          by_cases c16 : (x0.Kind == 5) = true
          · skip
            refine o_g_t rfl c16 ?_
            refine o_mvt rfl (copy_of_int _ _) ?_
            refine o_g_t rfl c16 ?_
            refine o_bin (vt rfl (copy_of_int _ _)) (vk (copy_of_int _ _)) bin_neq ?_
            refine o_g_t rfl c8 ?_
            refine o_pick_t (vt rfl (copy_of_bool _)) c16 (vt rfl (copy_of_bool _)) ?_
            refine o_pick_f (vt rfl (copy_of_bool _)) c8 (vt rfl (copy_of_bool _)) ?_
            exact wpo_head (key7 _) ⟨rfl, rfl, (by simp only [c8, c16]; rfl), trivial⟩
          · have c16 := bf c16
            refine o_g_f rfl (ne_f c16) ?_
            refine o_g_f rfl (ne_f c16) ?_
            refine o_g_t rfl c8 ?_
            refine o_pick_f (vt rfl (copy_of_bool _)) c16 (vk (copy_of_bool _)) ?_
            refine o_pick_f (vt rfl (copy_of_bool _)) c8 (vt rfl (copy_of_bool _)) ?_
            exact wpo_head (key7 _) ⟨rfl, rfl, (by simp only [c8, c16]; rfl), trivial⟩
      by_cases c6 : (((decide (x0.Kind < 0)) || (decide (x0.Kind > 5))) || ((decide (x0.Kind < 3)) && (decide ((x0.L.length : Int) > 0)))) = true
      · clear h
        refine o_g_f rfl (ne_t c6) ?_
        refine o_g_f rfl (ne_t c6) ?_
        refine o_g_f rfl (ne_t c6) ?_
        refine o_g_f rfl (ne_t c6) ?_
        refine o_g_n rfl ?_
        refine o_g_n rfl ?_
        refine o_g_f rfl (ne_t c6) ?_
        refine o_pick_t (vt rfl (copy_of_bool _)) c6 (vk (copy_of_bool _)) ?_
        exact wpo_head (key5 _) ⟨rfl, rfl, (by simp only [c6]; rfl), trivial⟩
      · clear h
        have c6 := bf c6
        refine o_g_t rfl c6 ?_
        refine o_fa (lv_v rfl) ?_
        refine o_g_t rfl c6 ?_
        refine o_ld1 (lv_l rfl) rfl (T_ref17_Coded.cut_Kind lw _) (copy_of_int _ _) ?_
        refine o_g_t rfl c6 ?_
        refine o_bin (vt rfl (copy_of_int _ _)) (vk (copy_of_int _ _)) bin_eql ?_
        refine o_g_t rfl c6 ?_
        refine o_mvt rfl (copy_of_bool _) ?_
        by_cases c17 : (x0.Kind == 3) = true
        · skip
          refine o_g_t rfl c17 ?_
          refine o_mvt rfl (copy_of_int _ _) ?_
          refine o_g_t rfl c17 ?_
          refine o_bin (vt rfl (copy_of_int _ _)) (vk (copy_of_int _ _)) bin_neq ?_
          refine o_g_t rfl c6 ?_
          refine o_pick_t (vt rfl (copy_of_bool _)) c17 (vt rfl (copy_of_bool _)) ?_
          refine o_pick_f (vt rfl (copy_of_bool _)) c6 (vt rfl (copy_of_bool _)) ?_
          exact wpo_head (key5 _) ⟨rfl, rfl, (by simp only [c6, c17]; rfl), trivial⟩
        · have c17 := bf c17
          refine o_g_f rfl (ne_f c17) ?_
          refine o_g_f rfl (ne_f c17) ?_
          refine o_g_t rfl c6 ?_
          refine o_pick_f (vt rfl (copy_of_bool _)) c17 (vk (copy_of_bool _)) ?_
          refine o_pick_f (vt rfl (copy_of_bool _)) c6 (vt rfl (copy_of_bool _)) ?_
          exact wpo_head (key5 _) ⟨rfl, rfl, (by simp only [c6, c17]; rfl), trivial⟩
    by_cases c4 : ((decide (x0.Kind < 0)) || (decide (x0.Kind > 5))) = true
    · clear h
      refine o_g_f rfl (ne_t c4) ?_
      refine o_g_f rfl (ne_t c4) ?_
      refine o_g_f rfl (ne_t c4) ?_
      refine o_g_f rfl (ne_t c4) ?_
      refine o_g_n rfl ?_
      refine o_g_n rfl ?_
      refine o_g_f rfl (ne_t c4) ?_
      refine o_pick_t (vt rfl (copy_of_bool _)) c4 (vk (copy_of_bool _)) ?_
      exact wpo_head (key3 _) ⟨rfl, rfl, (by simp only [c4]; rfl), trivial⟩
    · clear h
      have c4 := bf c4
      refine o_g_t rfl c4 ?_
      refine o_fa (lv_v rfl) ?_
      refine o_g_t rfl c4 ?_
      refine o_ld1 (lv_l rfl) rfl (T_ref17_Coded.cut_Kind lw _) (copy_of_int _ _) ?_
      refine o_g_t rfl c4 ?_
      refine o_bin (vt rfl (copy_of_int _ _)) (vk (copy_of_int _ _)) bin_lss ?_
      refine o_g_t rfl c4 ?_
      refine o_mvt rfl (copy_of_bool _) ?_
      by_cases c18 : (decide (x0.Kind < 3)) = true
      · skip
        refine o_g_t rfl c18 ?_
        refine o_mvt rfl (copy_of_int _ _) ?_
        refine o_g_t rfl c18 ?_
        refine o_bin (vt rfl (copy_of_int _ _)) (vk (copy_of_int _ _)) bin_gtr ?_
        refine o_g_t rfl c4 ?_
        refine o_pick_t (vt rfl (copy_of_bool _)) c18 (vt rfl (copy_of_bool _)) ?_
        refine o_pick_f (vt rfl (copy_of_bool _)) c4 (vt rfl (copy_of_bool _)) ?_
        exact wpo_head (key3 _) ⟨rfl, rfl, (by simp only [c4, c18]; rfl), trivial⟩
      · have c18 := bf c18
        refine o_g_f rfl (ne_f c18) ?_
        refine o_g_f rfl (ne_f c18) ?_
        refine o_g_t rfl c4 ?_
        refine o_pick_f (vt rfl (copy_of_bool _)) c18 (vk (copy_of_bool _)) ?_
        refine o_pick_f (vt rfl (copy_of_bool _)) c4 (vt rfl (copy_of_bool _)) ?_
        exact wpo_head (key3 _) ⟨rfl, rfl, (by simp only [c4, c18]; rfl), trivial⟩
  by_cases c2 : (decide (x0.Kind < 0)) = true
  · clear h
    refine o_g_f rfl (ne_t c2) ?_
    refine o_g_f rfl (ne_t c2) ?_
    refine o_g_f rfl (ne_t c2) ?_
    refine o_pick_t (vt rfl (copy_of_bool _)) c2 (vk (copy_of_bool _)) ?_
    exact wpo_head (key1 _) ⟨rfl, rfl, (by simp only [c2]; rfl), trivial⟩
  · clear h
    have c2 := bf c2
    refine o_g_t rfl c2 ?_
    refine o_fa (lv_v rfl) ?_
    refine o_g_t rfl c2 ?_
    refine o_ld1 (lv_l rfl) rfl (T_ref17_Coded.cut_Kind lw _) (copy_of_int _ _) ?_
    refine o_g_t rfl c2 ?_
    refine o_bin (vt rfl (copy_of_int _ _)) (vk (copy_of_int _ _)) bin_gtr ?_
    refine o_pick_f (vt rfl (copy_of_bool _)) c2 (vt rfl (copy_of_bool _)) ?_
    exact wpo_head (key1 _) ⟨rfl, rfl, (by simp only [c2]; rfl), trivial⟩
theorem t_ref17_formed_L1 (k : Nat) (ih : C_ref17_formed k) : S_ref17_formed_L1 (k + 1) := by
  intro v1 t3 t4 r ρ H h
  rw [ref17_formed_L1] at h
  refine wpc_loop_i ?_
  refine c_seq ?_
  refine c_seq ?_
  refine c_reg ?_
  refine o_mvt rfl (copy_of_int _ _) ?_
  refine o_fa (lv_v rfl) ?_
  refine o_ld1 (lv_l rfl) rfl (T_ref17_Coded.cut_Bits lw _) (copy_of_str _) ?_
  refine o_len (vt rfl (copy_of_str _)) rfl (fun _ => ?_)
  refine o_bin (vt rfl (copy_of_int _ _)) (vt rfl (copy_of_int _ _)) bin_lss ?_
  refine o_nil ?_
  refine k_then ?_
  by_cases c1 : (decide (t4 < (v1.Bits.length : Int))) = true
  · have h := it_t h c1
    refine c_cond_t (vt rfl (copy_of_bool _)) c1 ?_
    refine c_skip ?_
    refine k_then ?_
    refine c_seq ?_
    refine c_block ?_
    refine c_seq ?_
    refine c_reg ?_
    refine o_fa (lv_v rfl) ?_
    refine o_ld1 (lv_l rfl) rfl (T_ref17_Coded.cut_Bits lw _) (copy_of_str _) ?_
    refine o_mvt rfl (copy_of_int _ _) ?_
    obtain ⟨y75, hy75, h⟩ := bind_some h
    refine o_ixs (vt rfl (copy_of_str _)) (vt rfl (copy_of_int _ _)) hy75 ?_
    refine o_bin (vt rfl (copy_of_int _ _)) (vk (copy_of_int _ _)) bin_neq ?_
    refine o_mvt rfl (copy_of_bool _) ?_
    by_cases c2 : ((y75.toNat : Int) != 48) = true
    · have h := it_t h c2
      refine o_g_t rfl c2 ?_
      refine o_fa (lv_v rfl) ?_
      refine o_g_t rfl c2 ?_
      refine o_ld1 (lv_l rfl) rfl (T_ref17_Coded.cut_Bits lw _) (copy_of_str _) ?_
      refine o_g_t rfl c2 ?_
      refine o_mvt rfl (copy_of_int _ _) ?_
      refine o_g_t rfl c2 ?_
      obtain ⟨y81, hy81, h⟩ := bind_some h
      refine o_ixs (vt rfl (copy_of_str _)) (vt rfl (copy_of_int _ _)) hy81 ?_
      refine o_g_t rfl c2 ?_
      refine o_bin (vt rfl (copy_of_int _ _)) (vk (copy_of_int _ _)) bin_neq ?_
      refine o_pick_t (vt rfl (copy_of_bool _)) c2 (vt rfl (copy_of_bool _)) ?_
      refine o_nil ?_
      refine k_then ?_
      exact wpc_head (ih.ref17_formed_J1 _ _ _ _ _ _ _ h) ⟨rfl, rfl, rfl, rfl, trivial⟩
    · have c2 := bf c2
      have h := it_f h c2
      refine o_g_f rfl (ne_f c2) ?_
      refine o_g_f rfl (ne_f c2) ?_
      refine o_g_f rfl (ne_f c2) ?_
      refine o_g_f rfl (ne_f c2) ?_
      refine o_g_f rfl (ne_f c2) ?_
      refine o_pick_f (vt rfl (copy_of_bool _)) c2 (vk (copy_of_bool _)) ?_
      refine o_nil ?_
      refine k_then ?_
      exact wpc_head (ih.ref17_formed_J1 _ _ _ _ _ _ _ h) ⟨rfl, rfl, rfl, rfl, trivial⟩
  · have c1 := bf c1
    have h := it_f h c1
    refine c_cond_f (vt rfl (copy_of_bool _)) c1 ?_
    refine c_exit ?_
    refine k_then_exit ?_
    refine k_then_exit ?_
    refine k_block_exit _ ?_
    refine k_then ?_
    refine c_seq ?_
    refine c_seq ?_
    refine c_reg ?_
    refine o_mvk ?_
    refine o_nil ?_
    refine k_then ?_
    refine c_block ?_
    exact wpc_head (ih.ref17_formed_L2 _ _ _ _ _ _ h) ⟨rfl, rfl, rfl, trivial⟩
theorem t_ref17_formed_J1 (k : Nat) (ih : C_ref17_formed k) : S_ref17_formed_J1 (k + 1) := by
  intro v1 t3 t4 t83 r ρ H h
  rw [ref17_formed_J1] at h
  by_cases c1 : t83 = true
  · have h := it_t h c1
    refine c_cond_t (vt rfl (copy_of_bool _)) c1 ?_
    refine c_seq ?_
    refine c_reg ?_
    refine o_mvk ?_
    refine o_nil ?_
    refine k_then ?_
    refine c_ret ?_
    refine k_block_ret ?_
    refine k_then_ret ?_
    refine k_then_ret ?_
    refine k_block_ret ?_
    refine k_then_ret ?_
    obtain rfl := Option.some.inj h
    exact r_one rfl (res_t rfl (copy_of_bool _)) (.inl rfl)
  · have c1 := bf c1
    have h := it_f h c1
    refine c_cond_f (vt rfl (copy_of_bool _)) c1 ?_
    refine c_skip ?_
    refine k_block _ ?_
    refine k_then ?_
    refine c_reg ?_
    refine o_mvt rfl (copy_of_int _ _) ?_
    refine o_bin (vt rfl (copy_of_int _ _)) (vk (copy_of_int _ _)) bin_add ?_
    refine o_mvt rfl (copy_of_int _ _) ?_
    refine o_nil ?_
    refine k_then ?_
    exact wpc_head (ih.ref17_formed_L1 _ _ _ _ _ _ h) ⟨rfl, rfl, rfl, trivial⟩
theorem t_ref17_formed_L2 (k : Nat) (ih : C_ref17_formed k) : S_ref17_formed_L2 (k + 1) := by
  intro v1 t3 t5 r ρ H h
  rw [ref17_formed_L2] at h
  refine wpc_loop_i ?_
  refine c_seq ?_
  refine c_seq ?_
  refine c_reg ?_
  refine o_mvt rfl (copy_of_int _ _) ?_
  refine o_mvt rfl (copy_of_int _ _) ?_
  refine o_bin (vt rfl (copy_of_int _ _)) (vt rfl (copy_of_int _ _)) bin_lss ?_
  refine o_nil ?_
  refine k_then ?_
  by_cases c1 : (decide (t5 < t3)) = true
  · have h := it_t h c1
    refine c_cond_t (vt rfl (copy_of_bool _)) c1 ?_
    refine c_skip ?_
    refine k_then ?_
    refine c_seq ?_
    refine c_block ?_
    refine c_seq ?_
    refine c_reg ?_
    refine o_fa (lv_v rfl) ?_
    refine o_ld1 (lv_l rfl) rfl (T_ref17_Coded.cut_L lw _) (Wr.copy wr_l _ _) ?_
    refine o_mvt rfl (copy_of_int _ _) ?_
    obtain ⟨y92, hy92, h⟩ := bind_some h
    refine o_ias (vt rfl (copy_of_list _)) (vt rfl (copy_of_int _ _)) hy92 (T_ref17_Coded.enc_cells _) (T_ref17_Coded.len lw _) ?_
    refine o_ldi rfl (cut_all (T_ref17_Coded.len _ _)) (T_ref17_Coded.copy wr_l _) ?_
    obtain ⟨y94, hy94, h⟩ := bind_some h
    refine o_call rfl (g_cons (gt_ rfl (copy_of_agg _)) g_nil) (ih.ref17_formed _ _ hy94 _) ?_
    refine o_un (vt rfl (copy_of_bool _)) un_not ?_
    refine o_nil ?_
    refine k_then ?_
    by_cases c2 : (!y94) = true
    · have h := it_t h c2
      refine c_cond_t (vt rfl (copy_of_bool _)) c2 ?_
      refine c_seq ?_
      refine c_reg ?_
      refine o_mvk ?_
      refine o_nil ?_
      refine k_then ?_
      refine c_ret ?_
      refine k_block_ret ?_
      refine k_then_ret ?_
      refine k_then_ret ?_
      refine k_block_ret ?_
      refine k_then_ret ?_
      obtain rfl := Option.some.inj h
      exact r_one rfl (res_t rfl (copy_of_bool _)) (.inl rfl)
    · have c2 := bf c2
      have h := it_f h c2
      refine c_cond_f (vt rfl (copy_of_bool _)) c2 ?_
      refine c_skip ?_
      refine k_block _ ?_
      refine k_then ?_
      refine c_reg ?_
      refine o_mvt rfl (copy_of_int _ _) ?_
      refine o_bin (vt rfl (copy_of_int _ _)) (vk (copy_of_int _ _)) bin_add ?_
      refine o_mvt rfl (copy_of_int _ _) ?_
      refine o_nil ?_
      refine k_then ?_
      exact wpc_head (ih.ref17_formed_L2 _ _ _ _ _ _ h) ⟨rfl, rfl, rfl, trivial⟩
  · have c1 := bf c1
    have h := it_f h c1
    refine c_cond_f (vt rfl (copy_of_bool _)) c1 ?_
    refine c_exit ?_
    refine k_then_exit ?_
    refine k_then_exit ?_
    refine k_block_exit _ ?_
    refine k_then ?_
    refine c_seq ?_
    refine c_reg ?_
    refine o_mvk ?_
    refine o_nil ?_
    refine k_then ?_
    refine c_ret ?_
    obtain rfl := Option.some.inj h
    exact r_one rfl (res_t rfl (copy_of_bool _)) (.inl rfl)
theorem z_ref17_formed : S_ref17_formed 0 := by
  intro x0 r h H
  rw [ref17_formed] at h; cases h
theorem z_ref17_formed_L1 : S_ref17_formed_L1 0 := by
  intro v1 t3 t4 r ρ H h
  rw [ref17_formed_L1] at h; cases h
theorem z_ref17_formed_J1 : S_ref17_formed_J1 0 := by
  intro v1 t3 t4 t83 r ρ H h
  rw [ref17_formed_J1] at h; cases h
theorem z_ref17_formed_L2 : S_ref17_formed_L2 0 := by
  intro v1 t3 t5 r ρ H h
  rw [ref17_formed_L2] at h; cases h
theorem C_ref17_formed.all : ∀ k, C_ref17_formed k
  | 0 => ⟨z_ref17_formed, z_ref17_formed_L1, z_ref17_formed_J1, z_ref17_formed_L2⟩
  | k + 1 => ⟨t_ref17_formed k (C_ref17_formed.all k), t_ref17_formed_L1 k (C_ref17_formed.all k), t_ref17_formed_J1 k (C_ref17_formed.all k), t_ref17_formed_L2 k (C_ref17_formed.all k)⟩
theorem s_ref17_formed (k : Nat) : S_ref17_formed k := (C_ref17_formed.all k).ref17_formed
def a41_r0 : List AI := [
  { dst := some 1, op := .box (.t 0) },
  { dst := some 2, op := .mv (.k (.bool false)) }]
def a41_r1 : List AI := [
  { dst := some 3, op := .ld (some 259) 1 },
  { dst := some 4, op := .call 64 [(.t 3), (.k (.int .i64 20001))] },
  { dst := some 5, op := .bin .leq (.t 4) (.k (.int .i64 20000)) },
  { dst := some 6, op := .mv (.t 5) },
  { dst := some 7, g := some (6, true), op := .ld (some 259) 1 },
  { dst := some 8, g := some (6, true), op := .call 65 [(.t 7), (.k (.int .i64 8000))] },
  { dst := some 9, g := some (6, true), op := .bin .leq (.t 8) (.k (.int .i64 8000)) },
  { dst := some 10, op := .pick (.t 6) (.t 9) (.k (.bool false)) },
  { dst := some 11, op := .mv (.t 10) },
  { dst := some 12, g := some (11, true), op := .ld (some 259) 1 },
  { dst := some 13, g := some (11, true), op := .call 66 [(.t 12)] },
  { dst := some 14, op := .pick (.t 11) (.t 13) (.k (.bool false)) },
  { dst := some 2, op := .mv (.t 14) }]
def a41_k1 : AC := (.seq (.reg a41_r1) .ret)
def a41_B : AC := (.seq (.reg a41_r0) a41_k1)
/-- catchpole/catchpoleref17.Good -/
def a41 : AF := { N := 15, V := [1], body := a41_B, res := [.t 2] }
theorem c41 : chkF P a41 Go.Proofs.Tryd.f41 = true := by kernel_rfl
/-- catchpole/catchpoleref17.Good -/
def ref17_Good (k : Nat) (x0 : T_ref17_Coded) : Option Bool := match k with
  | 0 => none
  | k + 1 =>
    (ref17_Size k x0 20001).bind fun y4 =>
    if (decide (y4 ≤ 20000)) = true then ((ref17_deep k x0 8000).bind fun y8 =>
    if (decide (y8 ≤ 8000)) = true then ((ref17_formed k x0).bind fun y13 =>
    some y13)
    else some false)
    else some false
def S_ref17_Good (k : Nat) : Prop := ∀ (x0 : T_ref17_Coded) (r : Bool), ref17_Good k x0 = some r → ∀ H, Ev P 41 [(.agg (T_ref17_Coded.cells lw x0))] H (.bool r) H
structure C_ref17_Good (k : Nat) : Prop where
  ref17_Good : S_ref17_Good k
theorem t_ref17_Good (k : Nat) (ih : C_ref17_Good k) : S_ref17_Good (k + 1) := by
  intro x0 r h H0
  rw [ref17_Good] at h
  refine evc_intro a41 Go.Proofs.Tryd.func41 c41 (Nat.le_of_ble_eq_true rfl) (cl_cons (T_ref17_Coded.closed _) cl_nil) rfl ?_ H0
  generalize ([] : List (Option (List D))) = H
  show wpc (Ev P) a41_B (retN a41.res (.bool r)) _
  refine c_seq ?_
  refine c_reg ?_
  refine o_box (vt rfl (copy_of_agg _)) (T_ref17_Coded.one wr_l _) (T_ref17_Coded.copy wr_l _) ?_
  refine o_mvk ?_
  refine o_nil ?_
  refine k_then ?_
  refine c_seq ?_
  refine c_reg ?_
  refine o_ld (lv_v rfl) rfl (cut_all (T_ref17_Coded.len _ _)) (T_ref17_Coded.copy wr_l _) ?_
  obtain ⟨y4, hy4, h⟩ := bind_some h
  refine o_call rfl (g_cons (gt_ rfl (copy_of_agg _)) (g_cons gk_ g_nil)) (s_ref17_Size k _ _ _ hy4 _) ?_
  refine o_bin (vt rfl (copy_of_int _ _)) (vk (copy_of_int _ _)) bin_leq ?_
  refine o_mvt rfl (copy_of_bool _) ?_
  by_cases c1 : (decide (y4 ≤ 20000)) = true
  · have h := it_t h c1
    refine o_g_t rfl c1 ?_
    refine o_ld (lv_v rfl) rfl (cut_all (T_ref17_Coded.len _ _)) (T_ref17_Coded.copy wr_l _) ?_
    refine o_g_t rfl c1 ?_
    obtain ⟨y8, hy8, h⟩ := bind_some h
    refine o_call rfl (g_cons (gt_ rfl (copy_of_agg _)) (g_cons gk_ g_nil)) (s_ref17_deep k _ _ _ hy8 _) ?_
    refine o_g_t rfl c1 ?_
    refine o_bin (vt rfl (copy_of_int _ _)) (vk (copy_of_int _ _)) bin_leq ?_
    refine o_pick_t (vt rfl (copy_of_bool _)) c1 (vt rfl (copy_of_bool _)) ?_
    refine o_mvt rfl (copy_of_bool _) ?_
    by_cases c2 : (decide (y8 ≤ 8000)) = true
    · have h := it_t h c2
      refine o_g_t rfl c2 ?_
      refine o_ld (lv_v rfl) rfl (cut_all (T_ref17_Coded.len _ _)) (T_ref17_Coded.copy wr_l _) ?_
      refine o_g_t rfl c2 ?_
      obtain ⟨y13, hy13, h⟩ := bind_some h
      refine o_call rfl (g_cons (gt_ rfl (copy_of_agg _)) g_nil) (s_ref17_formed k _ _ hy13 _) ?_
      refine o_pick_t (vt rfl (copy_of_bool _)) c2 (vt rfl (copy_of_bool _)) ?_
      refine o_mvt rfl (copy_of_bool _) ?_
      refine o_nil ?_
      refine k_then ?_
      refine c_ret ?_
      obtain rfl := Option.some.inj h
      exact r_one rfl (res_t rfl (copy_of_bool _)) (.inl rfl)
    · have c2 := bf c2
      have h := it_f h c2
      refine o_g_f rfl (ne_f c2) ?_
      refine o_g_f rfl (ne_f c2) ?_
      refine o_pick_f (vt rfl (copy_of_bool _)) c2 (vk (copy_of_bool _)) ?_
      refine o_mvt rfl (copy_of_bool _) ?_
      refine o_nil ?_
      refine k_then ?_
      refine c_ret ?_
      obtain rfl := Option.some.inj h
      exact r_one rfl (res_t rfl (copy_of_bool _)) (.inl rfl)
  · have c1 := bf c1
    have h := it_f h c1
    refine o_g_f rfl (ne_f c1) ?_
    refine o_g_f rfl (ne_f c1) ?_
    refine o_g_f rfl (ne_f c1) ?_
    refine o_pick_f (vt rfl (copy_of_bool _)) c1 (vk (copy_of_bool _)) ?_
    refine o_mvt rfl (copy_of_bool _) ?_
    refine o_g_f rfl (ne_f rfl) ?_
    refine o_g_f rfl (ne_f rfl) ?_
    refine o_pick_f (vt rfl (copy_of_bool _)) rfl (vk (copy_of_bool _)) ?_
    refine o_mvt rfl (copy_of_bool _) ?_
    refine o_nil ?_
    refine k_then ?_
    refine c_ret ?_
    obtain rfl := Option.some.inj h
    exact r_one rfl (res_t rfl (copy_of_bool _)) (.inl rfl)
theorem z_ref17_Good : S_ref17_Good 0 := by
  intro x0 r h H
  rw [ref17_Good] at h; cases h
theorem C_ref17_Good.all : ∀ k, C_ref17_Good k
  | 0 => ⟨z_ref17_Good⟩
  | k + 1 => ⟨t_ref17_Good k (C_ref17_Good.all k)⟩
theorem s_ref17_Good (k : Nat) : S_ref17_Good k := (C_ref17_Good.all k).ref17_Good
def a42_r0 : List AI := [
  { dst := some 1, op := .box (.t 0) },
  { dst := some 2, op := .alloc ([.int .i64 0, .str []] ++ List.replicate 256 (.bool false) ++ [.list []]) }]
def a42_r1 : List AI := [
  { dst := some 7, op := .fa 1 0 },
  { dst := some 8, op := .ld none 7 }]
def a42_r2 : List AI := [
  { dst := some 10, op := .bin .eql (.t 8) (.k (.int .i64 3)) },
  { dst := some 9, op := .mv (.t 10) }]
def a42_r3 : List AI := [
  { dst := some 11, nl := [(1, 3), (1, 4)], op := .fa 1 258 },
  { dst := some 12, nl := [(1, 3), (11, 3), (1, 4), (11, 4)], op := .ldv none 11 1 258 },
  { dst := some 13, nl := [(12, 3), (12, 4)], op := .ias 259 (.t 12) (.k (.int .i64 0)) },
  { dst := some 14, nl := [(13, 3), (13, 4)], op := .ldi (some 259) 13 },
  { dst := some 15, nl := [(14, 3), (14, 4)], op := .callQ 42 [(.t 14)] },
  { dst := some 16, nl := [(1, 3), (1, 4)], op := .fa 1 258 },
  { dst := some 17, nl := [(1, 3), (16, 3), (1, 4), (16, 4)], op := .ldv none 16 1 258 },
  { dst := some 18, nl := [(17, 3), (17, 4)], op := .ias 259 (.t 17) (.k (.int .i64 1)) },
  { dst := some 19, nl := [(18, 3), (18, 4)], op := .ldi (some 259) 18 },
  { dst := some 20, nl := [(19, 3), (19, 4)], op := .callQ 42 [(.t 19)] },
  { dst := some 3, op := .alloc ([.int .i64 0, .str []] ++ List.replicate 256 (.bool false) ++ [.list []]) },
  { dst := some 4, op := .alloc ([.int .i64 0, .str []] ++ List.replicate 256 (.bool false) ++ [.list []]) },
  { dst := none, op := .stv 259 3 3 0 (.t 15) },
  { dst := none, op := .stv 259 4 4 0 (.t 20) }]
def a42_r4 : List AI := [
  { dst := some 21, op := .fa 3 0 },
  { dst := some 22, op := .ld none 21 },
  { dst := some 23, op := .bin .eql (.t 22) (.k (.int .i64 0)) },
  { dst := some 24, op := .mv (.t 23) },
  { dst := some 25, g := some (24, false), op := .fa 4 0 },
  { dst := some 26, g := some (24, false), op := .ld none 25 },
  { dst := some 27, g := some (24, false), op := .bin .eql (.t 26) (.k (.int .i64 0)) },
  { dst := some 28, op := .pick (.t 24) (.k (.bool true)) (.t 27) }]
def a42_r5 : List AI := [
  { dst := some 29, op := .build ([.int .i64 0, .str []] ++ List.replicate 256 (.bool false) ++ [.list []]) [] },
  { dst := none, op := .st 259 2 (.t 29) }]
def a42_k1 : AC := (.cond (.t 28) (.seq (.reg a42_r5) .ret) .skip)
def a42_r6 : List AI := [
  { dst := some 30, op := .fa 3 0 },
  { dst := some 31, op := .ld none 30 },
  { dst := some 32, op := .bin .eql (.t 31) (.k (.int .i64 1)) }]
def a42_r7 : List AI := [
  { dst := some 33, op := .fa 1 1 },
  { dst := some 34, op := .ld none 33 },
  { dst := some 35, op := .fa 3 1 },
  { dst := some 36, op := .ld none 35 },
  { dst := some 37, op := .bin .add (.t 34) (.t 36) },
  { dst := some 38, op := .ld (some 259) 4 },
  { dst := some 39, op := .call 35 [(.t 37), (.t 38)] },
  { dst := none, op := .st 259 2 (.t 39) }]
def a42_k2 : AC := (.cond (.t 32) (.seq (.reg a42_r7) .ret) .skip)
def a42_r8 : List AI := [
  { dst := some 40, op := .fa 1 1 },
  { dst := some 41, op := .ld none 40 },
  { dst := some 42, op := .ld (some 259) 3 },
  { dst := some 43, op := .ld (some 259) 4 },
  { dst := some 44, op := .bsl 35 259 [(.t 42), (.t 43)] },
  { dst := some 45, op := .build ([.int .i64 0, .str []] ++ List.replicate 256 (.bool false) ++ [.list []]) [(0, 1, (.k (.int .i64 3))), (1, 1, (.t 41)), (258, 1, (.t 44))] },
  { dst := none, op := .st 259 2 (.t 45) }]
def a42_k3 : AC := (.seq (.reg a42_r8) .ret)
def a42_k4 : AC := (.seq (.seq (.reg a42_r6) a42_k2) a42_k3)
def a42_k5 : AC := (.seq (.seq (.reg a42_r4) a42_k1) a42_k4)
def a42_r9 : List AI := [
  { dst := some 47, op := .bin .eql (.t 8) (.k (.int .i64 4)) },
  { dst := some 46, op := .mv (.t 47) }]
def a42_r10 : List AI := [
  { dst := some 5, op := .mv (.k (.own 35 [])) }]
def a42_r11 : List AI := [
  { dst := some 6, op := .mv (.k (.int .i64 0)) }]
def a42_r12 : List AI := [
  { dst := some 48, op := .mv (.t 6) },
  { dst := some 49, op := .fa 1 258 },
  { dst := some 50, op := .ld none 49 },
  { dst := some 51, op := .len false (.t 50) },
  { dst := some 52, op := .bin .lss (.t 48) (.t 51) }]
def a42_k6 : AC := (.cond (.t 52) .skip (.exit 1))
def a42_r14 : List AI := [
  { dst := some 55, op := .mv (.x 5) },
  { dst := some 56, op := .fa 1 258 },
  { dst := some 57, op := .ld none 56 },
  { dst := some 58, op := .mv (.t 6) },
  { dst := some 59, op := .ias 259 (.t 57) (.t 58) },
  { dst := some 60, op := .ld (some 259) 59 },
  { dst := some 61, op := .call 42 [(.t 60)] },
  { dst := some 62, op := .bsl 35 259 [(.t 61)] },
  { dst := some 63, op := .app 35 259 304 55 (.t 62) },
  { dst := some 5, op := .mv (.x 63) }]
def a42_r13 : List AI := [
  { dst := some 53, op := .mv (.t 6) },
  { dst := some 54, op := .bin .add (.t 53) (.k (.int .i64 1)) },
  { dst := some 6, op := .mv (.t 54) }]
def a42_k7 : AC := (.seq (.block 2 (.reg a42_r14)) (.reg a42_r13))
def a42_L1 : AC := (.seq (.seq (.reg a42_r12) a42_k6) a42_k7)
def a42_k8 : AC := (.block 1 (.loop a42_L1))
def a42_r15 : List AI := [
  { dst := some 64, op := .mv (.t 5) },
  { dst := some 65, op := .call 11 [(.t 64)] },
  { dst := some 66, op := .call 13 [(.t 65)] },
  { dst := some 5, op := .mv (.x 66) }]
def a42_r16 : List AI := [
  { dst := some 67, op := .mv (.t 5) },
  { dst := some 68, op := .len false (.t 67) },
  { dst := some 69, op := .bin .eql (.t 68) (.k (.int .i64 0)) }]
def a42_r17 : List AI := [
  { dst := some 70, op := .build ([.int .i64 0, .str []] ++ List.replicate 256 (.bool false) ++ [.list []]) [] },
  { dst := none, op := .st 259 2 (.t 70) }]
def a42_k9 : AC := (.cond (.t 69) (.seq (.reg a42_r17) .ret) .skip)
def a42_r18 : List AI := [
  { dst := some 71, op := .mv (.t 5) },
  { dst := some 72, op := .len false (.t 71) },
  { dst := some 73, op := .bin .eql (.t 72) (.k (.int .i64 1)) }]
def a42_r19 : List AI := [
  { dst := some 74, op := .fa 1 1 },
  { dst := some 75, op := .ldv none 74 1 1 },
  { dst := some 76, op := .mv (.t 5) },
  { dst := some 77, op := .ias 259 (.t 76) (.k (.int .i64 0)) },
  { dst := some 78, op := .ldi (some 259) 77 },
  { dst := some 79, op := .callQ 35 [(.t 75), (.t 78)] },
  { dst := none, op := .stv 259 2 2 0 (.t 79) }]
def a42_k10 : AC := (.cond (.t 73) (.seq (.reg a42_r19) .ret) .skip)
def a42_r20 : List AI := [
  { dst := some 80, op := .fa 1 1 },
  { dst := some 81, op := .ld none 80 },
  { dst := some 82, op := .mv (.t 5) },
  { dst := some 83, op := .build ([.int .i64 0, .str []] ++ List.replicate 256 (.bool false) ++ [.list []]) [(0, 1, (.k (.int .i64 4))), (1, 1, (.t 81)), (258, 1, (.t 82))] },
  { dst := none, op := .st 259 2 (.t 83) }]
def a42_k11 : AC := (.seq (.reg a42_r20) .ret)
def a42_k12 : AC := (.seq (.seq (.reg a42_r18) a42_k10) a42_k11)
def a42_k13 : AC := (.seq (.seq (.reg a42_r16) a42_k9) a42_k12)
def a42_k14 : AC := (.seq (.reg a42_r15) a42_k13)
def a42_k15 : AC := (.seq (.seq (.reg a42_r11) a42_k8) a42_k14)
def a42_k16 : AC := (.cond (.t 46) (.seq (.reg a42_r10) a42_k15) .skip)
def a42_k17 : AC := (.cond (.t 9) (.seq (.reg a42_r3) a42_k5) (.seq (.reg a42_r9) a42_k16))
def a42_k18 : AC := (.block 0 (.seq (.reg a42_r2) a42_k17))
def a42_r21 : List AI := [
  { dst := some 84, op := .ld (some 259) 1 },
  { dst := none, op := .st 259 2 (.t 84) }]
def a42_k19 : AC := (.seq (.reg a42_r21) .ret)
def a42_k20 : AC := (.seq (.seq (.reg a42_r1) a42_k18) a42_k19)
def a42_B : AC := (.seq (.reg a42_r0) a42_k20)
/-- catchpole/catchpoleref17.simp -/
def a42 : AF := { N := 85, V := [1, 2, 3, 4], body := a42_B, res := [.c (some 259) 2] }
theorem c42 : chkF P a42 Go.Proofs.Tryd.f42 = true := by kernel_rfl
mutual
/-- catchpole/catchpoleref17.simp -/
def ref17_simp (k : Nat) (x0 : T_ref17_Coded) : Option T_ref17_Coded := match k with
  | 0 => none
  | k + 1 =>
    if (x0.Kind == 3) = true then ((at_ x0.L 0).bind fun y13 =>
    (ref17_simp k y13).bind fun y15 =>
    (at_ x0.L 1).bind fun y18 =>
    (ref17_simp k y18).bind fun y20 =>
    if ((y15.Kind == 0) || (y20.Kind == 0)) = true then (some (T_ref17_Coded.mk 0 [] (Arr.rep 256 false) []))
    else if (y15.Kind == 1) = true then (need (x0.Bits.length + y15.Bits.length ≤ 140737488351232) <|
    (ref17_Fuse k (x0.Bits ++ y15.Bits) y20).bind fun y39 =>
    some y39)
    else some (T_ref17_Coded.mk 3 x0.Bits (Arr.rep 256 false) [y15, y20]))
    else if (x0.Kind == 4) = true then (ref17_simp_L1 k x0 (T_ref17_Coded.mk 0 [] (Arr.rep 256 false) []) [] 0)
    else some x0
def ref17_simp_L1 (k : Nat) (v1 : T_ref17_Coded) (v2 : T_ref17_Coded) (t5 : (List T_ref17_Coded)) (t6 : Int) : Option T_ref17_Coded := match k with
  | 0 => none
  | k + 1 =>
    if (decide (t6 < (v1.L.length : Int))) = true then ((at_ v1.L t6).bind fun y59 =>
    (ref17_simp k y59).bind fun y61 =>
    need ((t5.length + ([y61]).length) * 304 ≤ 140737488351232 ∧ t5.length + ([y61]).length ≤ 140737488351232) <|
    ref17_simp_L1 k v1 v2 (t5 ++ ([y61])) (IntKind.i64.wrap (t6 + 1)))
    else (ref17_Flat k t5).bind fun y65 =>
    (ref17_Once k y65).bind fun y66 =>
    if ((y66.length : Int) == 0) = true then (some (T_ref17_Coded.mk 0 [] (Arr.rep 256 false) []))
    else if ((y66.length : Int) == 1) = true then ((at_ y66 0).bind fun y77 =>
    (ref17_Fuse k v1.Bits y77).bind fun y79 =>
    some y79)
    else some (T_ref17_Coded.mk 4 v1.Bits (Arr.rep 256 false) y66)
end
def a42_q1 (R : Ex → St → Prop) : Ex → St → Prop := Ex.then (wpc (Ev P) a42_k19 R) R
def a42_q2 (R : Ex → St → Prop) : Ex → St → Prop := Ex.inBlock 0 (a42_q1 R)
def a42_q3 (R : Ex → St → Prop) : Ex → St → Prop := Ex.then (wpc (Ev P) a42_k4 (a42_q2 R)) (a42_q2 R)
def a42_q4 (R : Ex → St → Prop) : Ex → St → Prop := Ex.then (wpc (Ev P) a42_k1 (a42_q3 R)) (a42_q3 R)
def a42_q5 (R : Ex → St → Prop) : Ex → St → Prop := Ex.then (wpc (Ev P) a42_k14 (a42_q2 R)) (a42_q2 R)
def a42_q6 (R : Ex → St → Prop) : Ex → St → Prop := Ex.inBlock 1 (a42_q5 R)
def S_ref17_simp (k : Nat) : Prop := ∀ (x0 : T_ref17_Coded) (r : T_ref17_Coded), ref17_simp k x0 = some r → ∀ H, Ev P 42 [(.agg (T_ref17_Coded.cells lw x0))] H (.agg (T_ref17_Coded.cells lw r)) H
def S_ref17_simp_L1 (k : Nat) : Prop := ∀ (v1 : T_ref17_Coded) (v2 : T_ref17_Coded) (t5 : (List T_ref17_Coded)) (t6 : Int) (r : T_ref17_Coded) (ρ : Nat → Slot) (H : List (Option (List D))) , ref17_simp_L1 k v1 v2 t5 t6 = some r → wpc (Ev P) (.loop a42_L1) (a42_q6 (retN a42.res (.agg (T_ref17_Coded.cells lw r)))) ⟨upds ρ [(1, .var (T_ref17_Coded.cells lw v1)), (2, .var (T_ref17_Coded.cells lw v2)), (5, .d (.own 35 (t5.map T_ref17_Coded.enc))), (6, .d (.int .i64 t6))], H⟩
structure C_ref17_simp (k : Nat) : Prop where
  ref17_simp : S_ref17_simp k
  ref17_simp_L1 : S_ref17_simp_L1 k
theorem t_ref17_simp (k : Nat) (ih : C_ref17_simp k) : S_ref17_simp (k + 1) := by
  intro x0 r h H0
  rw [ref17_simp] at h
  refine evc_intro a42 Go.Proofs.Tryd.func42 c42 (Nat.le_of_ble_eq_true rfl) (cl_cons (T_ref17_Coded.closed _) cl_nil) (T_ref17_Coded.closed _) ?_ H0
  generalize ([] : List (Option (List D))) = H
  show wpc (Ev P) a42_B (retN a42.res (.agg (T_ref17_Coded.cells lw r))) _
  refine c_seq ?_
  refine c_reg ?_
  refine o_box (vt rfl (copy_of_agg _)) (T_ref17_Coded.one wr_l _) (T_ref17_Coded.copy wr_l _) ?_
  refine o_alloc (cs := T_ref17_Coded.cells lw (T_ref17_Coded.mk 0 [] (Arr.rep 256 false) [])) (by simp [T_ref17_Coded.cells, Arr.rep, lw, ow]) ?_
  refine o_nil ?_
  refine k_then ?_
  refine c_seq ?_
  refine c_seq ?_
  refine c_reg ?_
  refine o_fa (lv_v rfl) ?_
  refine o_ld1 (lv_l rfl) rfl (T_ref17_Coded.cut_Kind lw _) (copy_of_int _ _) ?_
  refine o_nil ?_
  refine k_then ?_
  refine c_block ?_
  refine c_seq ?_
  refine c_reg ?_
  refine o_bin (vt rfl (copy_of_int _ _)) (vk (copy_of_int _ _)) bin_eql ?_
  refine o_mvt rfl (copy_of_bool _) ?_
  refine o_nil ?_
  refine k_then ?_
  by_cases c1 : (x0.Kind == 3) = true
  · have h := it_t h c1
    refine c_cond_t (vt rfl (copy_of_bool _)) c1 ?_
    refine c_seq ?_
    refine c_reg ?_
    refine o_nl rfl ?_
    refine o_fa (lv_v rfl) ?_
    refine o_nl rfl ?_
    refine o_ldv1 (lv_l rfl) rfl (T_ref17_Coded.cut_L lw _) (Wr.copy wr_l _ _) ?_
    refine o_nl rfl ?_
    obtain ⟨y13, hy13, h⟩ := bind_some h
    refine o_ias (vt rfl (copy_of_list _)) (vk (copy_of_int _ _)) hy13 (T_ref17_Coded.enc_cells _) (T_ref17_Coded.len lw _) ?_
    refine o_nl rfl ?_
    refine o_ldI rfl (cut_all (T_ref17_Coded.len _ _)) (T_ref17_Coded.copy wr_l _) ?_
    refine o_nl rfl ?_
    obtain ⟨y15, hy15, h⟩ := bind_some h
    refine o_callq (g_cons (gt_ rfl (copy_of_agg _)) g_nil) (ih.ref17_simp _ _ hy15 _) ?_
    refine o_nl rfl ?_
    refine o_fa (lv_v rfl) ?_
    refine o_nl rfl ?_
    refine o_ldv1 (lv_l rfl) rfl (T_ref17_Coded.cut_L lw _) (Wr.copy wr_l _ _) ?_
    refine o_nl rfl ?_
    obtain ⟨y18, hy18, h⟩ := bind_some h
    refine o_ias (vt rfl (copy_of_list _)) (vk (copy_of_int _ _)) hy18 (T_ref17_Coded.enc_cells _) (T_ref17_Coded.len lw _) ?_
    refine o_nl rfl ?_
    refine o_ldI rfl (cut_all (T_ref17_Coded.len _ _)) (T_ref17_Coded.copy wr_l _) ?_
    refine o_nl rfl ?_
    obtain ⟨y20, hy20, h⟩ := bind_some h
    refine o_callq (g_cons (gt_ rfl (copy_of_agg _)) g_nil) (ih.ref17_simp _ _ hy20 _) ?_
    refine o_alloc (cs := T_ref17_Coded.cells lw (T_ref17_Coded.mk 0 [] (Arr.rep 256 false) [])) (by simp [T_ref17_Coded.cells, Arr.rep, lw, ow]) ?_
    refine o_alloc (cs := T_ref17_Coded.cells lw (T_ref17_Coded.mk 0 [] (Arr.rep 256 false) [])) (by simp [T_ref17_Coded.cells, Arr.rep, lw, ow]) ?_
    refine o_stv (lv_v rfl) (gt_ rfl (copy_of_agg _)) (cells_of_agg _) (T_ref17_Coded.len _ _) (T_ref17_Coded.one wr_l _) rfl (splice_all (n := 259) (T_ref17_Coded.len _ _) (T_ref17_Coded.len _ _)) ?_
    refine o_stv (lv_v rfl) (gt_ rfl (copy_of_agg _)) (cells_of_agg _) (T_ref17_Coded.len _ _) (T_ref17_Coded.one wr_l _) rfl (splice_all (n := 259) (T_ref17_Coded.len _ _) (T_ref17_Coded.len _ _)) ?_
    refine o_nil ?_
    refine k_then ?_
    refine c_seq ?_
    refine c_seq ?_
    refine c_reg ?_
    refine o_fa (lv_v rfl) ?_
    refine o_ld1 (lv_l rfl) rfl (T_ref17_Coded.cut_Kind lw _) (copy_of_int _ _) ?_
    refine o_bin (vt rfl (copy_of_int _ _)) (vk (copy_of_int _ _)) bin_eql ?_
    refine o_mvt rfl (copy_of_bool _) ?_
    have key2 : ∀ ρ : Nat → Slot, wpo (Ev P) (a42_r4.drop 8) ((a42_q4 (retN a42.res (.agg (T_ref17_Coded.cells lw r)))) .normal) ⟨upds ρ [(1, .var (T_ref17_Coded.cells lw x0)), (2, .var (T_ref17_Coded.cells lw (T_ref17_Coded.mk 0 [] (Arr.rep 256 false) []))), (3, .var (T_ref17_Coded.cells lw y15)), (4, .var (T_ref17_Coded.cells lw y20)), (28, .d (.bool ((y15.Kind == 0) || (y20.Kind == 0))))], H⟩ := by
      intro ρ
      refine o_nil ?_
      refine k_then ?_
      by_cases c4 : ((y15.Kind == 0) || (y20.Kind == 0)) = true
      · have h := it_t h c4
        refine c_cond_t (vt rfl (copy_of_bool _)) c4 ?_
        refine c_seq ?_
        refine c_reg ?_
        refine o_build (fill_z (z' := T_ref17_Coded.cells lw (T_ref17_Coded.mk 0 [] (Arr.rep 256 false) [])) (by simp [T_ref17_Coded.cells, Arr.rep, lw, ow]) fill_nil) ?_
        refine o_st rfl (lv_v rfl) (gt_ rfl (copy_of_agg _)) (cells_of_agg _) (T_ref17_Coded.len _ _) (T_ref17_Coded.one wr_l _) rfl (splice_all (n := 259) (T_ref17_Coded.len _ _) (T_ref17_Coded.len _ _)) ?_
        refine o_nil ?_
        refine k_then ?_
        refine c_ret ?_
        refine k_then_ret ?_
        refine k_block_ret ?_
        refine k_then_ret ?_
        obtain rfl := Option.some.inj h
        exact r_one rfl (res_c rfl (cut_all (T_ref17_Coded.len _ _)) (T_ref17_Coded.copy wr_l _)) (.inl rfl)
      · have c4 := bf c4
        have h := it_f h c4
        refine c_cond_f (vt rfl (copy_of_bool _)) c4 ?_
        refine c_skip ?_
        refine k_then ?_
        refine c_seq ?_
        refine c_seq ?_
        refine c_reg ?_
        refine o_fa (lv_v rfl) ?_
        refine o_ld1 (lv_l rfl) rfl (T_ref17_Coded.cut_Kind lw _) (copy_of_int _ _) ?_
        refine o_bin (vt rfl (copy_of_int _ _)) (vk (copy_of_int _ _)) bin_eql ?_
        refine o_nil ?_
        refine k_then ?_
        by_cases c5 : (y15.Kind == 1) = true
        · have h := it_t h c5
          refine c_cond_t (vt rfl (copy_of_bool _)) c5 ?_
          refine c_seq ?_
          refine c_reg ?_
          refine o_fa (lv_v rfl) ?_
          refine o_ld1 (lv_l rfl) rfl (T_ref17_Coded.cut_Bits lw _) (copy_of_str _) ?_
          refine o_fa (lv_v rfl) ?_
          refine o_ld1 (lv_l rfl) rfl (T_ref17_Coded.cut_Bits lw _) (copy_of_str _) ?_
          obtain ⟨c6, h⟩ := need_some h
          refine o_bin (vt rfl (copy_of_str _)) (vt rfl (copy_of_str _)) (bin_str c6) ?_
          refine o_ld (lv_v rfl) rfl (cut_all (T_ref17_Coded.len _ _)) (T_ref17_Coded.copy wr_l _) ?_
          obtain ⟨y39, hy39, h⟩ := bind_some h
          refine o_call rfl (g_cons (gt_ rfl (copy_of_str _)) (g_cons (gt_ rfl (copy_of_agg _)) g_nil)) (s_ref17_Fuse k _ _ _ hy39 _) ?_
          refine o_st rfl (lv_v rfl) (gt_ rfl (copy_of_agg _)) (cells_of_agg _) (T_ref17_Coded.len _ _) (T_ref17_Coded.one wr_l _) rfl (splice_all (n := 259) (T_ref17_Coded.len _ _) (T_ref17_Coded.len _ _)) ?_
          refine o_nil ?_
          refine k_then ?_
          refine c_ret ?_
          refine k_then_ret ?_
          refine k_block_ret ?_
          refine k_then_ret ?_
          obtain rfl := Option.some.inj h
          exact r_one rfl (res_c rfl (cut_all (T_ref17_Coded.len _ _)) (T_ref17_Coded.copy wr_l _)) (.inl rfl)
        · have c5 := bf c5
          have h := it_f h c5
          refine c_cond_f (vt rfl (copy_of_bool _)) c5 ?_
          refine c_skip ?_
          refine k_then ?_
          refine c_seq ?_
          refine c_reg ?_
          refine o_fa (lv_v rfl) ?_
          refine o_ld1 (lv_l rfl) rfl (T_ref17_Coded.cut_Bits lw _) (copy_of_str _) ?_
          refine o_ld (lv_v rfl) rfl (cut_all (T_ref17_Coded.len _ _)) (T_ref17_Coded.copy wr_l _) ?_
          refine o_ld (lv_v rfl) rfl (cut_all (T_ref17_Coded.len _ _)) (T_ref17_Coded.copy wr_l _) ?_
          refine o_bsl (f := T_ref17_Coded.enc) (v_cons (vt rfl (copy_of_agg _)) (v_cons (vt rfl (copy_of_agg _)) v_nil)) (l_cons (T_ref17_Coded.enc_eq _).symm (l_cons (T_ref17_Coded.enc_eq _).symm l_nil)) T_ref17_Coded.elem ?_
          refine o_build (fill_z (z' := T_ref17_Coded.cells lw (T_ref17_Coded.mk 0 [] (Arr.rep 256 false) [])) (by simp [T_ref17_Coded.cells, Arr.rep, lw, ow]) (fill_cons (vk (copy_of_int _ _)) rfl rfl cc_int (T_ref17_Coded.spl_Kind _ 3) (fill_cons (vt rfl (copy_of_str _)) rfl rfl cc_str (T_ref17_Coded.spl_Bits _ x0.Bits) (fill_cons (vt rfl (copy_of_own _ _)) rfl rfl cc_list (T_ref17_Coded.spl_L (w' := lw) _ ([y15, y20])) fill_nil)))) ?_
          refine o_st rfl (lv_v rfl) (gt_ rfl (copy_of_agg _)) (cells_of_agg _) (T_ref17_Coded.len _ _) (T_ref17_Coded.one wr_l _) rfl (splice_all (n := 259) (T_ref17_Coded.len _ _) (T_ref17_Coded.len _ _)) ?_
          refine o_nil ?_
          refine k_then ?_
          refine c_ret ?_
          refine k_block_ret ?_
          refine k_then_ret ?_
          obtain rfl := Option.some.inj h
          exact r_one rfl (res_c rfl (cut_all (T_ref17_Coded.len _ _)) (T_ref17_Coded.copy wr_l _)) (.inl rfl)
    by_cases c3 : (y15.Kind == 0) = true
    · clear h
      refine o_g_f rfl (ne_t c3) ?_
      refine o_g_f rfl (ne_t c3) ?_
      refine o_g_f rfl (ne_t c3) ?_
      refine o_pick_t (vt rfl (copy_of_bool _)) c3 (vk (copy_of_bool _)) ?_
      exact wpo_head (key2 _) ⟨rfl, rfl, rfl, rfl, (by simp only [c3]; rfl), trivial⟩
    · clear h
      have c3 := bf c3
      refine o_g_t rfl c3 ?_
      refine o_fa (lv_v rfl) ?_
      refine o_g_t rfl c3 ?_
      refine o_ld1 (lv_l rfl) rfl (T_ref17_Coded.cut_Kind lw _) (copy_of_int _ _) ?_
      refine o_g_t rfl c3 ?_
      refine o_bin (vt rfl (copy_of_int _ _)) (vk (copy_of_int _ _)) bin_eql ?_
      refine o_pick_f (vt rfl (copy_of_bool _)) c3 (vt rfl (copy_of_bool _)) ?_
      exact wpo_head (key2 _) ⟨rfl, rfl, rfl, rfl, (by simp only [c3]; rfl), trivial⟩
  · have c1 := bf c1
    have h := it_f h c1
    refine c_cond_f (vt rfl (copy_of_bool _)) c1 ?_
    refine c_seq ?_
    refine c_reg ?_
    refine o_bin (vt rfl (copy_of_int _ _)) (vk (copy_of_int _ _)) bin_eql ?_
    refine o_mvt rfl (copy_of_bool _) ?_
    refine o_nil ?_
    refine k_then ?_
    by_cases c7 : (x0.Kind == 4) = true
    · have h := it_t h c7
      refine c_cond_t (vt rfl (copy_of_bool _)) c7 ?_
      refine c_seq ?_
      refine c_reg ?_
      refine o_mvk ?_
      refine o_nil ?_
      refine k_then ?_
      refine c_seq ?_
      refine c_seq ?_
      refine c_reg ?_
      refine o_mvk ?_
      refine o_nil ?_
      refine k_then ?_
      refine c_block ?_
      exact wpc_head (ih.ref17_simp_L1 _ _ _ _ _ _ _ h) ⟨rfl, rfl, rfl, rfl, trivial⟩
    · have c7 := bf c7
      have h := it_f h c7
      refine c_cond_f (vt rfl (copy_of_bool _)) c7 ?_
      refine c_skip ?_
      refine k_block _ ?_
      refine k_then ?_
      refine c_seq ?_
      refine c_reg ?_
      refine o_ld (lv_v rfl) rfl (cut_all (T_ref17_Coded.len _ _)) (T_ref17_Coded.copy wr_l _) ?_
      refine o_st rfl (lv_v rfl) (gt_ rfl (copy_of_agg _)) (cells_of_agg _) (T_ref17_Coded.len _ _) (T_ref17_Coded.one wr_l _) rfl (splice_all (n := 259) (T_ref17_Coded.len _ _) (T_ref17_Coded.len _ _)) ?_
      refine o_nil ?_
      refine k_then ?_
      refine c_ret ?_
      obtain rfl := Option.some.inj h
      exact r_one rfl (res_c rfl (cut_all (T_ref17_Coded.len _ _)) (T_ref17_Coded.copy wr_l _)) (.inl rfl)
theorem t_ref17_simp_L1 (k : Nat) (ih : C_ref17_simp k) : S_ref17_simp_L1 (k + 1) := by
  intro v1 v2 t5 t6 r ρ H h
  rw [ref17_simp_L1] at h
  refine wpc_loop_i ?_
  refine c_seq ?_
  refine c_seq ?_
  refine c_reg ?_
  refine o_mvt rfl (copy_of_int _ _) ?_
  refine o_fa (lv_v rfl) ?_
  refine o_ld1 (lv_l rfl) rfl (T_ref17_Coded.cut_L lw _) (Wr.copy wr_l _ _) ?_
  refine o_len_l (vt rfl (copy_of_list _)) (fun _ => ?_)
  refine o_bin (vt rfl (copy_of_int _ _)) (vt rfl (copy_of_int _ _)) bin_lss ?_
  refine o_nil ?_
  refine k_then ?_
  by_cases c1 : (decide (t6 < (v1.L.length : Int))) = true
  · have h := it_t h c1
    refine c_cond_t (vt rfl (copy_of_bool _)) c1 ?_
    refine c_skip ?_
    refine k_then ?_
    refine c_seq ?_
    refine c_block ?_
    refine c_reg ?_
    refine o_mvx rfl ?_
    refine o_fa (lv_v rfl) ?_
    refine o_ld1 (lv_l rfl) rfl (T_ref17_Coded.cut_L lw _) (Wr.copy wr_l _ _) ?_
    refine o_mvt rfl (copy_of_int _ _) ?_
    obtain ⟨y59, hy59, h⟩ := bind_some h
    refine o_ias (vt rfl (copy_of_list _)) (vt rfl (copy_of_int _ _)) hy59 (T_ref17_Coded.enc_cells _) (T_ref17_Coded.len lw _) ?_
    refine o_ldi rfl (cut_all (T_ref17_Coded.len _ _)) (T_ref17_Coded.copy wr_l _) ?_
    obtain ⟨y61, hy61, h⟩ := bind_some h
    refine o_call rfl (g_cons (gt_ rfl (copy_of_agg _)) g_nil) (ih.ref17_simp _ _ hy61 _) ?_
    refine o_bsl (f := T_ref17_Coded.enc) (v_cons (vt rfl (copy_of_agg _)) v_nil) (l_cons (T_ref17_Coded.enc_eq _).symm l_nil) T_ref17_Coded.elem ?_
    obtain ⟨c2, h⟩ := need_some h
    refine o_app (f := T_ref17_Coded.enc) (xs := t5) (ys := ([y61])) T_ref17_Coded.elem rfl (vt rfl (copy_of_own _ _)) c2 ?_
    refine o_mvx rfl ?_
    refine o_nil ?_
    refine k_block _ ?_
    refine k_then ?_
    refine c_reg ?_
    refine o_mvt rfl (copy_of_int _ _) ?_
    refine o_bin (vt rfl (copy_of_int _ _)) (vk (copy_of_int _ _)) bin_add ?_
    refine o_mvt rfl (copy_of_int _ _) ?_
    refine o_nil ?_
    refine k_then ?_
    exact wpc_head (ih.ref17_simp_L1 _ _ _ _ _ _ _ h) ⟨rfl, rfl, rfl, rfl, trivial⟩
  · have c1 := bf c1
    have h := it_f h c1
    refine c_cond_f (vt rfl (copy_of_bool _)) c1 ?_
    refine c_exit ?_
    refine k_then_exit ?_
    refine k_then_exit ?_
    refine k_block_exit _ ?_
    refine k_then ?_
    refine c_seq ?_
    refine c_reg ?_
    refine o_mvt rfl (copy_of_own _ _) ?_
    obtain ⟨y65, hy65, h⟩ := bind_some h
    refine o_call rfl (g_cons (gt_ rfl (copy_of_list _)) g_nil) (s_ref17_Flat k _ _ hy65 _) ?_
    obtain ⟨y66, hy66, h⟩ := bind_some h
    refine o_call rfl (g_cons (gt_ rfl (copy_of_list _)) g_nil) (s_ref17_Once k _ _ hy66 _) ?_
    refine o_mvxl rfl ?_
    refine o_nil ?_
    refine k_then ?_
    refine c_seq ?_
    refine c_seq ?_
    refine c_reg ?_
    refine o_mvt rfl (copy_of_list _) ?_
    refine o_len_l (vt rfl (copy_of_list _)) (fun _ => ?_)
    refine o_bin (vt rfl (copy_of_int _ _)) (vk (copy_of_int _ _)) bin_eql ?_
    refine o_nil ?_
    refine k_then ?_
    by_cases c3 : ((y66.length : Int) == 0) = true
    · have h := it_t h c3
      refine c_cond_t (vt rfl (copy_of_bool _)) c3 ?_
      refine c_seq ?_
      refine c_reg ?_
      refine o_build (fill_z (z' := T_ref17_Coded.cells lw (T_ref17_Coded.mk 0 [] (Arr.rep 256 false) [])) (by simp [T_ref17_Coded.cells, Arr.rep, lw, ow]) fill_nil) ?_
      refine o_st rfl (lv_v rfl) (gt_ rfl (copy_of_agg _)) (cells_of_agg _) (T_ref17_Coded.len _ _) (T_ref17_Coded.one wr_l _) rfl (splice_all (n := 259) (T_ref17_Coded.len _ _) (T_ref17_Coded.len _ _)) ?_
      refine o_nil ?_
      refine k_then ?_
      refine c_ret ?_
      refine k_then_ret ?_
      refine k_block_ret ?_
      refine k_then_ret ?_
      obtain rfl := Option.some.inj h
      exact r_one rfl (res_c rfl (cut_all (T_ref17_Coded.len _ _)) (T_ref17_Coded.copy wr_l _)) (.inl rfl)
    · have c3 := bf c3
      have h := it_f h c3
      refine c_cond_f (vt rfl (copy_of_bool _)) c3 ?_
      refine c_skip ?_
      refine k_then ?_
      refine c_seq ?_
      refine c_seq ?_
      refine c_reg ?_
      refine o_mvt rfl (copy_of_list _) ?_
      refine o_len_l (vt rfl (copy_of_list _)) (fun _ => ?_)
      refine o_bin (vt rfl (copy_of_int _ _)) (vk (copy_of_int _ _)) bin_eql ?_
      refine o_nil ?_
      refine k_then ?_
      by_cases c4 : ((y66.length : Int) == 1) = true
      · have h := it_t h c4
        refine c_cond_t (vt rfl (copy_of_bool _)) c4 ?_
        refine c_seq ?_
        refine c_reg ?_
        refine o_fa (lv_v rfl) ?_
        refine o_ldv1 (lv_l rfl) rfl (T_ref17_Coded.cut_Bits lw _) (copy_of_str _) ?_
        refine o_mvt rfl (copy_of_list _) ?_
        obtain ⟨y77, hy77, h⟩ := bind_some h
        refine o_ias (vt rfl (copy_of_list _)) (vk (copy_of_int _ _)) hy77 (T_ref17_Coded.enc_cells _) (T_ref17_Coded.len lw _) ?_
        refine o_ldI rfl (cut_all (T_ref17_Coded.len _ _)) (T_ref17_Coded.copy wr_l _) ?_
        obtain ⟨y79, hy79, h⟩ := bind_some h
        refine o_callq (g_cons (gt_ rfl (copy_of_str _)) (g_cons (gt_ rfl (copy_of_agg _)) g_nil)) (s_ref17_Fuse k _ _ _ hy79 _) ?_
        refine o_stv (lv_v rfl) (gt_ rfl (copy_of_agg _)) (cells_of_agg _) (T_ref17_Coded.len _ _) (T_ref17_Coded.one wr_l _) rfl (splice_all (n := 259) (T_ref17_Coded.len _ _) (T_ref17_Coded.len _ _)) ?_
        refine o_nil ?_
        refine k_then ?_
        refine c_ret ?_
        refine k_then_ret ?_
        refine k_block_ret ?_
        refine k_then_ret ?_
        obtain rfl := Option.some.inj h
        exact r_one rfl (res_c rfl (cut_all (T_ref17_Coded.len _ _)) (T_ref17_Coded.copy wr_l _)) (.inl rfl)
      · have c4 := bf c4
        have h := it_f h c4
        refine c_cond_f (vt rfl (copy_of_bool _)) c4 ?_
        refine c_skip ?_
        refine k_then ?_
        refine c_seq ?_
        refine c_reg ?_
        refine o_fa (lv_v rfl) ?_
        refine o_ld1 (lv_l rfl) rfl (T_ref17_Coded.cut_Bits lw _) (copy_of_str _) ?_
        refine o_mvt rfl (copy_of_list _) ?_
        refine o_build (fill_z (z' := T_ref17_Coded.cells lw (T_ref17_Coded.mk 0 [] (Arr.rep 256 false) [])) (by simp [T_ref17_Coded.cells, Arr.rep, lw, ow]) (fill_cons (vk (copy_of_int _ _)) rfl rfl cc_int (T_ref17_Coded.spl_Kind _ 4) (fill_cons (vt rfl (copy_of_str _)) rfl rfl cc_str (T_ref17_Coded.spl_Bits _ v1.Bits) (fill_cons (vt rfl (copy_of_list _)) rfl rfl cc_list (T_ref17_Coded.spl_L (w' := lw) _ y66) fill_nil)))) ?_
        refine o_st rfl (lv_v rfl) (gt_ rfl (copy_of_agg _)) (cells_of_agg _) (T_ref17_Coded.len _ _) (T_ref17_Coded.one wr_l _) rfl (splice_all (n := 259) (T_ref17_Coded.len _ _) (T_ref17_Coded.len _ _)) ?_
        refine o_nil ?_
        refine k_then ?_
        refine c_ret ?_
        refine k_block_ret ?_
        refine k_then_ret ?_
        obtain rfl := Option.some.inj h
        exact r_one rfl (res_c rfl (cut_all (T_ref17_Coded.len _ _)) (T_ref17_Coded.copy wr_l _)) (.inl rfl)
theorem z_ref17_simp : S_ref17_simp 0 := by
  intro x0 r h H
  rw [ref17_simp] at h; cases h
theorem z_ref17_simp_L1 : S_ref17_simp_L1 0 := by
  intro v1 v2 t5 t6 r ρ H h
  rw [ref17_simp_L1] at h; cases h
theorem C_ref17_simp.all : ∀ k, C_ref17_simp k
  | 0 => ⟨z_ref17_simp, z_ref17_simp_L1⟩
  | k + 1 => ⟨t_ref17_simp k (C_ref17_simp.all k), t_ref17_simp_L1 k (C_ref17_simp.all k)⟩
theorem s_ref17_simp (k : Nat) : S_ref17_simp k := (C_ref17_simp.all k).ref17_simp
def a16_r0 : List AI := [
  { dst := some 1, op := .box (.t 0) },
  { dst := some 2, op := .alloc ([.int .i64 0, .str []] ++ List.replicate 256 (.bool false) ++ [.list []]) }]
def a16_r1 : List AI := [
  { dst := some 3, op := .ld (some 259) 1 },
  { dst := some 4, op := .call 41 [(.t 3)] },
  { dst := some 5, op := .un .not (.t 4) }]
def a16_r2 : List AI := [
  { dst := some 6, op := .ld (some 259) 1 },
  { dst := none, op := .st 259 2 (.t 6) }]
def a16_k1 : AC := (.cond (.t 5) (.seq (.reg a16_r2) .ret) .skip)
def a16_r3 : List AI := [
  { dst := some 7, op := .ld (some 259) 1 },
  { dst := some 8, op := .call 42 [(.t 7)] },
  { dst := none, op := .st 259 2 (.t 8) }]
def a16_k2 : AC := (.seq (.reg a16_r3) .ret)
def a16_k3 : AC := (.seq (.seq (.reg a16_r1) a16_k1) a16_k2)
def a16_B : AC := (.seq (.reg a16_r0) a16_k3)
/-- catchpole/catchpoleref17.Simp -/
def a16 : AF := { N := 9, V := [1, 2], body := a16_B, res := [.c (some 259) 2] }
theorem c16 : chkF P a16 Go.Proofs.Tryd.f16 = true := by kernel_rfl
/-- catchpole/catchpoleref17.Simp -/
def ref17_Simp (k : Nat) (x0 : T_ref17_Coded) : Option T_ref17_Coded := match k with
  | 0 => none
  | k + 1 =>
    (ref17_Good k x0).bind fun y4 =>
    if (!y4) = true then (some x0)
    else (ref17_simp k x0).bind fun y8 =>
    some y8
def S_ref17_Simp (k : Nat) : Prop := ∀ (x0 : T_ref17_Coded) (r : T_ref17_Coded), ref17_Simp k x0 = some r → ∀ H, Ev P 16 [(.agg (T_ref17_Coded.cells lw x0))] H (.agg (T_ref17_Coded.cells lw r)) H
structure C_ref17_Simp (k : Nat) : Prop where
  ref17_Simp : S_ref17_Simp k
theorem t_ref17_Simp (k : Nat) (ih : C_ref17_Simp k) : S_ref17_Simp (k + 1) := by
  intro x0 r h H0
  rw [ref17_Simp] at h
  refine evc_intro a16 Go.Proofs.Tryd.func16 c16 (Nat.le_of_ble_eq_true rfl) (cl_cons (T_ref17_Coded.closed _) cl_nil) (T_ref17_Coded.closed _) ?_ H0
  generalize ([] : List (Option (List D))) = H
  show wpc (Ev P) a16_B (retN a16.res (.agg (T_ref17_Coded.cells lw r))) _
  refine c_seq ?_
  refine c_reg ?_
  refine o_box (vt rfl (copy_of_agg _)) (T_ref17_Coded.one wr_l _) (T_ref17_Coded.copy wr_l _) ?_
  refine o_alloc (cs := T_ref17_Coded.cells lw (T_ref17_Coded.mk 0 [] (Arr.rep 256 false) [])) (by simp [T_ref17_Coded.cells, Arr.rep, lw, ow]) ?_
  refine o_nil ?_
  refine k_then ?_
  refine c_seq ?_
  refine c_seq ?_
  refine c_reg ?_
  refine o_ld (lv_v rfl) rfl (cut_all (T_ref17_Coded.len _ _)) (T_ref17_Coded.copy wr_l _) ?_
  obtain ⟨y4, hy4, h⟩ := bind_some h
  refine o_call rfl (g_cons (gt_ rfl (copy_of_agg _)) g_nil) (s_ref17_Good k _ _ hy4 _) ?_
  refine o_un (vt rfl (copy_of_bool _)) un_not ?_
  refine o_nil ?_
  refine k_then ?_
  by_cases c1 : (!y4) = true
  · have h := it_t h c1
    refine c_cond_t (vt rfl (copy_of_bool _)) c1 ?_
    refine c_seq ?_
    refine c_reg ?_
    refine o_ld (lv_v rfl) rfl (cut_all (T_ref17_Coded.len _ _)) (T_ref17_Coded.copy wr_l _) ?_
    refine o_st rfl (lv_v rfl) (gt_ rfl (copy_of_agg _)) (cells_of_agg _) (T_ref17_Coded.len _ _) (T_ref17_Coded.one wr_l _) rfl (splice_all (n := 259) (T_ref17_Coded.len _ _) (T_ref17_Coded.len _ _)) ?_
    refine o_nil ?_
    refine k_then ?_
    refine c_ret ?_
    refine k_then_ret ?_
    obtain rfl := Option.some.inj h
    exact r_one rfl (res_c rfl (cut_all (T_ref17_Coded.len _ _)) (T_ref17_Coded.copy wr_l _)) (.inl rfl)
  · have c1 := bf c1
    have h := it_f h c1
    refine c_cond_f (vt rfl (copy_of_bool _)) c1 ?_
    refine c_skip ?_
    refine k_then ?_
    refine c_seq ?_
    refine c_reg ?_
    refine o_ld (lv_v rfl) rfl (cut_all (T_ref17_Coded.len _ _)) (T_ref17_Coded.copy wr_l _) ?_
    obtain ⟨y8, hy8, h⟩ := bind_some h
    refine o_call rfl (g_cons (gt_ rfl (copy_of_agg _)) g_nil) (s_ref17_simp k _ _ hy8 _) ?_
    refine o_st rfl (lv_v rfl) (gt_ rfl (copy_of_agg _)) (cells_of_agg _) (T_ref17_Coded.len _ _) (T_ref17_Coded.one wr_l _) rfl (splice_all (n := 259) (T_ref17_Coded.len _ _) (T_ref17_Coded.len _ _)) ?_
    refine o_nil ?_
    refine k_then ?_
    refine c_ret ?_
    obtain rfl := Option.some.inj h
    exact r_one rfl (res_c rfl (cut_all (T_ref17_Coded.len _ _)) (T_ref17_Coded.copy wr_l _)) (.inl rfl)
theorem z_ref17_Simp : S_ref17_Simp 0 := by
  intro x0 r h H
  rw [ref17_Simp] at h; cases h
theorem C_ref17_Simp.all : ∀ k, C_ref17_Simp k
  | 0 => ⟨z_ref17_Simp⟩
  | k + 1 => ⟨t_ref17_Simp k (C_ref17_Simp.all k)⟩
theorem s_ref17_Simp (k : Nat) : S_ref17_Simp k := (C_ref17_Simp.all k).ref17_Simp
end Go.Am
