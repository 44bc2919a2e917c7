/- Functions over typed data, and that the program comes to their answers: printed by a program of this session. -/
import Derived.Test.YtgdjgoehofopnaaDoorSsF5
set_option linter.unusedSimpArgs false
set_option linter.unusedVariables false
set_option maxRecDepth 10000
namespace Go.Am
open Go
def a3_r0 : List AI := [
  { dst := some 2, op := .box (.t 0) },
  { dst := some 4, op := .mv (.k (.bool false)) }]
def a3_r1 : List AI := [
  { dst := some 13, op := .call 6 [] },
  { dst := some 14, op := .un .not (.t 13) }]
def a3_r2 : List AI := [
  { dst := some 4, op := .mv (.k (.bool false)) }]
def a3_k1 : AC := (.cond (.t 14) (.seq (.reg a3_r2) .ret) .skip)
def a3_r3 : List AI := [
  { dst := some 15, op := .ld (some 7) 2 },
  { dst := some 16, op := .call 7 [(.t 15), (.k (.int .i64 30))] },
  { dst := some 17, op := .mv (.t 16) },
  { dst := some 18, g := some (17, false), op := .mv (.t 1) },
  { dst := some 19, g := some (17, false), op := .len false (.t 18) },
  { dst := some 20, g := some (17, false), op := .bin .gtr (.t 19) (.k (.int .i64 12)) },
  { dst := some 21, op := .pick (.t 17) (.k (.bool true)) (.t 20) }]
def a3_r4 : List AI := [
  { dst := some 4, op := .mv (.k (.bool true)) }]
def a3_k2 : AC := (.cond (.t 21) (.seq (.reg a3_r4) .ret) .skip)
def a3_r5 : List AI := [
  { dst := some 5, op := .mv (.k (.own 35 [])) }]
def a3_r6 : List AI := [
  { dst := some 6, op := .mv (.k (.int .i64 0)) }]
def a3_r7 : List AI := [
  { dst := some 22, op := .mv (.t 6) },
  { dst := some 23, op := .mv (.t 1) },
  { dst := some 24, op := .len false (.t 23) },
  { dst := some 25, op := .bin .lss (.t 22) (.t 24) }]
def a3_k3 : AC := (.cond (.t 25) .skip (.exit 0))
def a3_r9 : List AI := [
  { dst := some 28, op := .mv (.t 1) },
  { dst := some 29, op := .mv (.t 6) },
  { dst := some 30, op := .ias 7 (.t 28) (.t 29) },
  { dst := some 31, op := .ld (some 7) 30 },
  { dst := some 32, op := .call 7 [(.t 31), (.k (.int .i64 20))] },
  { dst := some 33, op := .mv (.t 32) },
  { dst := some 34, g := some (33, false), op := .mv (.t 1) },
  { dst := some 35, g := some (33, false), op := .mv (.t 6) },
  { dst := some 36, g := some (33, false), op := .ias 7 (.t 34) (.t 35) },
  { dst := some 37, g := some (33, false), op := .ld (some 7) 36 },
  { dst := some 38, g := some (33, false), op := .call 8 [(.t 37)] },
  { dst := some 39, g := some (33, false), op := .un .not (.t 38) },
  { dst := some 40, op := .pick (.t 33) (.k (.bool true)) (.t 39) }]
def a3_r10 : List AI := [
  { dst := some 4, op := .mv (.k (.bool true)) }]
def a3_k4 : AC := (.cond (.t 40) (.seq (.reg a3_r10) .ret) .skip)
def a3_r11 : List AI := [
  { dst := some 41, op := .mv (.x 5) },
  { dst := some 42, op := .mv (.t 1) },
  { dst := some 43, op := .mv (.t 6) },
  { dst := some 44, op := .ias 7 (.t 42) (.t 43) },
  { dst := some 45, op := .ld (some 7) 44 },
  { dst := some 46, op := .call 9 [(.t 45)] },
  { dst := some 47, op := .bsl 35 259 [(.t 46)] },
  { dst := some 48, op := .app 35 259 304 41 (.t 47) },
  { dst := some 5, op := .mv (.x 48) }]
def a3_r8 : List AI := [
  { dst := some 26, op := .mv (.t 6) },
  { dst := some 27, op := .bin .add (.t 26) (.k (.int .i64 1)) },
  { dst := some 6, op := .mv (.t 27) }]
def a3_k5 : AC := (.seq (.block 1 (.seq (.seq (.reg a3_r9) a3_k4) (.reg a3_r11))) (.reg a3_r8))
def a3_L1 : AC := (.seq (.seq (.reg a3_r7) a3_k3) a3_k5)
def a3_k6 : AC := (.block 0 (.loop a3_L1))
def a3_r12 : List AI := [
  { dst := some 49, op := .mv (.t 1) },
  { dst := some 50, op := .call 10 [(.t 49)] },
  { dst := some 51, op := .mv (.t 5) },
  { dst := some 52, op := .call 11 [(.t 51)] },
  { dst := some 7, op := .mv (.t 50) },
  { dst := some 8, op := .mv (.t 52) }]
def a3_r13 : List AI := [
  { dst := some 53, op := .mv (.t 1) },
  { dst := some 54, op := .call 12 [(.t 53)] },
  { dst := some 55, op := .mv (.t 5) },
  { dst := some 56, op := .call 13 [(.t 55)] },
  { dst := some 9, op := .mv (.t 54) },
  { dst := some 10, op := .mv (.t 56) }]
def a3_r14 : List AI := [
  { dst := some 57, op := .mv (.t 7) },
  { dst := some 58, op := .len false (.t 57) },
  { dst := some 59, op := .mv (.t 8) },
  { dst := some 60, op := .len false (.t 59) },
  { dst := some 61, op := .bin .neq (.t 58) (.t 60) },
  { dst := some 62, op := .mv (.t 61) },
  { dst := some 63, g := some (62, false), op := .mv (.t 9) },
  { dst := some 64, g := some (62, false), op := .len false (.t 63) },
  { dst := some 65, g := some (62, false), op := .mv (.t 10) },
  { dst := some 66, g := some (62, false), op := .len false (.t 65) },
  { dst := some 67, g := some (62, false), op := .bin .neq (.t 64) (.t 66) },
  { dst := some 68, op := .pick (.t 62) (.k (.bool true)) (.t 67) }]
def a3_r15 : List AI := [
  { dst := some 4, op := .mv (.k (.bool false)) }]
def a3_k7 : AC := (.cond (.t 68) (.seq (.reg a3_r15) .ret) .skip)
def a3_r16 : List AI := [
  { dst := some 11, op := .mv (.k (.int .i64 0)) }]
def a3_r17 : List AI := [
  { dst := some 69, op := .mv (.t 11) },
  { dst := some 70, op := .mv (.t 7) },
  { dst := some 71, op := .len false (.t 70) },
  { dst := some 72, op := .bin .lss (.t 69) (.t 71) }]
def a3_k8 : AC := (.cond (.t 72) .skip (.exit 2))
def a3_r19 : List AI := [
  { dst := some 75, op := .mv (.t 7) },
  { dst := some 76, op := .mv (.t 11) },
  { dst := some 77, op := .ias 7 (.t 75) (.t 76) },
  { dst := some 78, op := .ldi (some 7) 77 },
  { dst := some 79, op := .callQ 9 [(.t 78)] },
  { dst := some 80, op := .mv (.t 8) },
  { dst := some 81, op := .mv (.t 11) },
  { dst := some 82, op := .ias 259 (.t 80) (.t 81) },
  { dst := some 83, op := .ldi (some 259) 82 },
  { dst := some 84, op := .callQ 14 [(.t 79), (.t 83)] },
  { dst := some 85, op := .un .not (.t 84) }]
def a3_r20 : List AI := [
  { dst := some 4, op := .mv (.k (.bool false)) }]
def a3_k9 : AC := (.cond (.t 85) (.seq (.reg a3_r20) .ret) .skip)
def a3_r18 : List AI := [
  { dst := some 73, op := .mv (.t 11) },
  { dst := some 74, op := .bin .add (.t 73) (.k (.int .i64 1)) },
  { dst := some 11, op := .mv (.t 74) }]
def a3_k10 : AC := (.seq (.block 3 (.seq (.reg a3_r19) a3_k9)) (.reg a3_r18))
def a3_L2 : AC := (.seq (.seq (.reg a3_r17) a3_k8) a3_k10)
def a3_k11 : AC := (.block 2 (.loop a3_L2))
def a3_r21 : List AI := [
  { dst := some 12, op := .mv (.k (.int .i64 0)) }]
def a3_r22 : List AI := [
  { dst := some 86, op := .mv (.t 12) },
  { dst := some 87, op := .mv (.t 9) },
  { dst := some 88, op := .len false (.t 87) },
  { dst := some 89, op := .bin .lss (.t 86) (.t 88) }]
def a3_k12 : AC := (.cond (.t 89) .skip (.exit 4))
def a3_r24 : List AI := [
  { dst := some 92, op := .mv (.t 9) },
  { dst := some 93, op := .mv (.t 12) },
  { dst := some 94, op := .ias 7 (.t 92) (.t 93) },
  { dst := some 95, op := .ldi (some 7) 94 },
  { dst := some 96, op := .callQ 9 [(.t 95)] },
  { dst := some 97, op := .mv (.t 10) },
  { dst := some 98, op := .mv (.t 12) },
  { dst := some 99, op := .ias 259 (.t 97) (.t 98) },
  { dst := some 100, op := .ldi (some 259) 99 },
  { dst := some 101, op := .callQ 14 [(.t 96), (.t 100)] },
  { dst := some 102, op := .un .not (.t 101) }]
def a3_r25 : List AI := [
  { dst := some 4, op := .mv (.k (.bool false)) }]
def a3_k13 : AC := (.cond (.t 102) (.seq (.reg a3_r25) .ret) .skip)
def a3_r23 : List AI := [
  { dst := some 90, op := .mv (.t 12) },
  { dst := some 91, op := .bin .add (.t 90) (.k (.int .i64 1)) },
  { dst := some 12, op := .mv (.t 91) }]
def a3_k14 : AC := (.seq (.block 5 (.seq (.reg a3_r24) a3_k13)) (.reg a3_r23))
def a3_L3 : AC := (.seq (.seq (.reg a3_r22) a3_k12) a3_k14)
def a3_k15 : AC := (.block 4 (.loop a3_L3))
def a3_r26 : List AI := [
  { dst := some 103, op := .ldv (some 7) 2 2 0 },
  { dst := some 104, op := .callQ 15 [(.t 103)] },
  { dst := some 105, op := .callQ 9 [(.t 104)] },
  { dst := some 106, op := .ldv (some 7) 2 2 0 },
  { dst := some 107, op := .callQ 9 [(.t 106)] },
  { dst := some 108, op := .callQ 16 [(.t 107)] },
  { dst := some 109, op := .callQ 14 [(.t 105), (.t 108)] },
  { dst := some 4, op := .mv (.t 109) }]
def a3_k16 : AC := (.seq (.reg a3_r26) .ret)
def a3_k17 : AC := (.seq (.seq (.reg a3_r21) a3_k15) a3_k16)
def a3_k18 : AC := (.seq (.seq (.reg a3_r16) a3_k11) a3_k17)
def a3_k19 : AC := (.seq (.seq (.reg a3_r14) a3_k7) a3_k18)
def a3_k20 : AC := (.seq (.reg a3_r13) a3_k19)
def a3_k21 : AC := (.seq (.reg a3_r12) a3_k20)
def a3_k22 : AC := (.seq (.seq (.reg a3_r6) a3_k6) a3_k21)
def a3_k23 : AC := (.seq (.reg a3_r5) a3_k22)
def a3_k24 : AC := (.seq (.seq (.reg a3_r3) a3_k2) a3_k23)
def a3_k25 : AC := (.seq (.seq (.reg a3_r1) a3_k1) a3_k24)
def a3_B : AC := (.seq (.reg a3_r0) a3_k25)
/-- catchpole/catchpolelaw18.SimpSays -/
def a3 : AF := { N := 110, V := [2], body := a3_B, res := [.t 4] }
theorem c3 : chkF P a3 Go.Proofs.Tryd.f3 = true := by kernel_rfl
mutual
/-- catchpole/catchpolelaw18.SimpSays -/
def law18_SimpSays (k : Nat) (x0 : T_coded_Coded) (x1 : (List T_coded_Coded)) : Option Bool := match k with
  | 0 => none
  | k + 1 =>
    (law18_awake k).bind fun y13 =>
    if (!y13) = true then (some false)
    else (law18_vast k x0 30).bind fun y16 =>
    if (y16 || (decide ((x1.length : Int) > 12))) = true then (some true)
    else law18_SimpSays_L1 k x1 x0 [] 0
def law18_SimpSays_L1 (k : Nat) (t1 : (List T_coded_Coded)) (v2 : T_coded_Coded) (t5 : (List T_ref17_Coded)) (t6 : Int) : Option Bool := match k with
  | 0 => none
  | k + 1 =>
    if (decide (t6 < (t1.length : Int))) = true then ((at_ t1 t6).bind fun y30 =>
    (law18_vast k y30 20).bind fun y32 =>
    if y32 = true then (law18_SimpSays_J1 k t1 v2 t5 t6 true)
    else (at_ t1 t6).bind fun y36 =>
    (coded_Good k y36).bind fun y38 =>
    law18_SimpSays_J1 k t1 v2 t5 t6 (!y38))
    else (simp_Flat k t1).bind fun y50 =>
    (ref17_Flat k t5).bind fun y52 =>
    (simp_Once k t1).bind fun y54 =>
    (ref17_Once k t5).bind fun y56 =>
    if (((y50.length : Int) != (y52.length : Int)) || ((y54.length : Int) != (y56.length : Int))) = true then (some false)
    else law18_SimpSays_L2 k v2 y50 y52 y54 y56 0
def law18_SimpSays_J1 (k : Nat) (t1 : (List T_coded_Coded)) (v2 : T_coded_Coded) (t5 : (List T_ref17_Coded)) (t6 : Int) (t40 : Bool) : Option Bool := match k with
  | 0 => none
  | k + 1 =>
    if t40 = true then (some true)
    else (at_ t1 t6).bind fun y44 =>
    (law18_codedOf k y44).bind fun y46 =>
    need ((t5.length + ([y46]).length) * 304 ≤ 140737488351232 ∧ t5.length + ([y46]).length ≤ 140737488351232) <|
    law18_SimpSays_L1 k t1 v2 (t5 ++ ([y46])) (IntKind.i64.wrap (t6 + 1))
def law18_SimpSays_L2 (k : Nat) (v2 : T_coded_Coded) (t7 : (List T_coded_Coded)) (t8 : (List T_ref17_Coded)) (t9 : (List T_coded_Coded)) (t10 : (List T_ref17_Coded)) (t11 : Int) : Option Bool := match k with
  | 0 => none
  | k + 1 =>
    if (decide (t11 < (t7.length : Int))) = true then ((at_ t7 t11).bind fun y77 =>
    (law18_codedOf k y77).bind fun y79 =>
    (at_ t8 t11).bind fun y82 =>
    (ref17_Alike k y79 y82).bind fun y84 =>
    if (!y84) = true then (some false)
    else law18_SimpSays_L2 k v2 t7 t8 t9 t10 (IntKind.i64.wrap (t11 + 1)))
    else law18_SimpSays_L3 k v2 t9 t10 0
def law18_SimpSays_L3 (k : Nat) (v2 : T_coded_Coded) (t9 : (List T_coded_Coded)) (t10 : (List T_ref17_Coded)) (t12 : Int) : Option Bool := match k with
  | 0 => none
  | k + 1 =>
    if (decide (t12 < (t9.length : Int))) = true then ((at_ t9 t12).bind fun y94 =>
    (law18_codedOf k y94).bind fun y96 =>
    (at_ t10 t12).bind fun y99 =>
    (ref17_Alike k y96 y99).bind fun y101 =>
    if (!y101) = true then (some false)
    else law18_SimpSays_L3 k v2 t9 t10 (IntKind.i64.wrap (t12 + 1)))
    else (simp_Of k v2).bind fun y104 =>
    (law18_codedOf k y104).bind fun y105 =>
    (law18_codedOf k v2).bind fun y107 =>
    (ref17_Simp k y107).bind fun y108 =>
    (ref17_Alike k y105 y108).bind fun y109 =>
    some y109
end
def a3_q1 (R : Ex → St → Prop) : Ex → St → Prop := Ex.then (wpc (Ev P) a3_k23 R) R
def a3_q2 (R : Ex → St → Prop) : Ex → St → Prop := Ex.then (wpc (Ev P) a3_k2 (a3_q1 R)) (a3_q1 R)
def a3_q3 (R : Ex → St → Prop) : Ex → St → Prop := Ex.then (wpc (Ev P) a3_k18 R) R
def a3_q4 (R : Ex → St → Prop) : Ex → St → Prop := Ex.then (wpc (Ev P) a3_k7 (a3_q3 R)) (a3_q3 R)
def a3_q5 (R : Ex → St → Prop) : Ex → St → Prop := Ex.then (wpc (Ev P) a3_k21 R) R
def a3_q6 (R : Ex → St → Prop) : Ex → St → Prop := Ex.inBlock 0 (a3_q5 R)
def a3_q7 (R : Ex → St → Prop) : Ex → St → Prop := Ex.then (wpc (Ev P) (.loop a3_L1) (a3_q6 R)) (a3_q6 R)
def a3_q8 (R : Ex → St → Prop) : Ex → St → Prop := Ex.then (wpc (Ev P) (.reg a3_r8) (a3_q7 R)) (a3_q7 R)
def a3_q9 (R : Ex → St → Prop) : Ex → St → Prop := Ex.inBlock 1 (a3_q8 R)
def a3_q10 (R : Ex → St → Prop) : Ex → St → Prop := Ex.then (wpc (Ev P) (.reg a3_r11) (a3_q9 R)) (a3_q9 R)
def a3_q11 (R : Ex → St → Prop) : Ex → St → Prop := Ex.then (wpc (Ev P) a3_k17 R) R
def a3_q12 (R : Ex → St → Prop) : Ex → St → Prop := Ex.inBlock 2 (a3_q11 R)
def a3_q13 (R : Ex → St → Prop) : Ex → St → Prop := Ex.then (wpc (Ev P) a3_k16 R) R
def a3_q14 (R : Ex → St → Prop) : Ex → St → Prop := Ex.inBlock 4 (a3_q13 R)
def S_law18_SimpSays (k : Nat) : Prop := ∀ (x0 : T_coded_Coded) (x1 : (List T_coded_Coded)) (r : Bool), law18_SimpSays k x0 x1 = some r → ∀ H, Ev P 3 [(.agg (T_coded_Coded.cells lw x0)), (.list (x1.map T_coded_Coded.enc))] H (.bool r) H
def S_law18_SimpSays_L1 (k : Nat) : Prop := ∀ (t1 : (List T_coded_Coded)) (v2 : T_coded_Coded) (t5 : (List T_ref17_Coded)) (t6 : Int) (r : Bool) (ρ : Nat → Slot) (H : List (Option (List D))) , law18_SimpSays_L1 k t1 v2 t5 t6 = some r → wpc (Ev P) (.loop a3_L1) (a3_q6 (retN a3.res (.bool r))) ⟨upds ρ [(1, .d (.list (t1.map T_coded_Coded.enc))), (2, .var (T_coded_Coded.cells lw v2)), (5, .d (.own 35 (t5.map T_ref17_Coded.enc))), (6, .d (.int .i64 t6))], H⟩
def S_law18_SimpSays_J1 (k : Nat) : Prop := ∀ (t1 : (List T_coded_Coded)) (v2 : T_coded_Coded) (t5 : (List T_ref17_Coded)) (t6 : Int) (t40 : Bool) (r : Bool) (ρ : Nat → Slot) (H : List (Option (List D))) , law18_SimpSays_J1 k t1 v2 t5 t6 t40 = some r → wpc (Ev P) a3_k4 (a3_q10 (retN a3.res (.bool r))) ⟨upds ρ [(1, .d (.list (t1.map T_coded_Coded.enc))), (2, .var (T_coded_Coded.cells lw v2)), (5, .d (.own 35 (t5.map T_ref17_Coded.enc))), (6, .d (.int .i64 t6)), (40, .d (.bool t40))], H⟩
def S_law18_SimpSays_L2 (k : Nat) : Prop := ∀ (v2 : T_coded_Coded) (t7 : (List T_coded_Coded)) (t8 : (List T_ref17_Coded)) (t9 : (List T_coded_Coded)) (t10 : (List T_ref17_Coded)) (t11 : Int) (r : Bool) (ρ : Nat → Slot) (H : List (Option (List D))) , law18_SimpSays_L2 k v2 t7 t8 t9 t10 t11 = some r → wpc (Ev P) (.loop a3_L2) (a3_q12 (retN a3.res (.bool r))) ⟨upds ρ [(2, .var (T_coded_Coded.cells lw v2)), (7, .d (.list (t7.map T_coded_Coded.enc))), (8, .d (.list (t8.map T_ref17_Coded.enc))), (9, .d (.list (t9.map T_coded_Coded.enc))), (10, .d (.list (t10.map T_ref17_Coded.enc))), (11, .d (.int .i64 t11))], H⟩
def S_law18_SimpSays_L3 (k : Nat) : Prop := ∀ (v2 : T_coded_Coded) (t9 : (List T_coded_Coded)) (t10 : (List T_ref17_Coded)) (t12 : Int) (r : Bool) (ρ : Nat → Slot) (H : List (Option (List D))) , law18_SimpSays_L3 k v2 t9 t10 t12 = some r → wpc (Ev P) (.loop a3_L3) (a3_q14 (retN a3.res (.bool r))) ⟨upds ρ [(2, .var (T_coded_Coded.cells lw v2)), (9, .d (.list (t9.map T_coded_Coded.enc))), (10, .d (.list (t10.map T_ref17_Coded.enc))), (12, .d (.int .i64 t12))], H⟩
structure C_law18_SimpSays (k : Nat) : Prop where
  law18_SimpSays : S_law18_SimpSays k
  law18_SimpSays_L1 : S_law18_SimpSays_L1 k
  law18_SimpSays_J1 : S_law18_SimpSays_J1 k
  law18_SimpSays_L2 : S_law18_SimpSays_L2 k
  law18_SimpSays_L3 : S_law18_SimpSays_L3 k
theorem t_law18_SimpSays (k : Nat) (ih : C_law18_SimpSays k) : S_law18_SimpSays (k + 1) := by
  intro x0 x1 r h H0
  rw [law18_SimpSays] at h
  refine evc_intro a3 Go.Proofs.Tryd.func3 c3 (Nat.le_of_ble_eq_true rfl) (cl_cons (T_coded_Coded.closed _) (cl_cons rfl cl_nil)) rfl ?_ H0
  generalize ([] : List (Option (List D))) = H
  show wpc (Ev P) a3_B (retN a3.res (.bool r)) _
  refine c_seq ?_
  refine c_reg ?_
  refine o_box (vt rfl (copy_of_agg _)) (T_coded_Coded.one wr_l _) (T_coded_Coded.copy wr_l _) ?_
  refine o_mvk ?_
  refine o_nil ?_
  refine k_then ?_
  refine c_seq ?_
  refine c_seq ?_
  refine c_reg ?_
  obtain ⟨y13, hy13, h⟩ := bind_some h
  refine o_call rfl g_nil (s_law18_awake k  _ hy13 _) ?_
  refine o_un (vt rfl (copy_of_bool _)) un_not ?_
  refine o_nil ?_
  refine k_then ?_
  by_cases c1 : (!y13) = true
  · have h := it_t h c1
    refine c_cond_t (vt rfl (copy_of_bool _)) c1 ?_
    refine c_seq ?_
    refine c_reg ?_
    refine o_mvk ?_
    refine o_nil ?_
    refine k_then ?_
    refine c_ret ?_
    refine k_then_ret ?_
    obtain rfl := Option.some.inj h
    exact r_one rfl (res_t rfl (copy_of_bool _)) (.inl rfl)
  · have c1 := bf c1
    have h := it_f h c1
    refine c_cond_f (vt rfl (copy_of_bool _)) c1 ?_
    refine c_skip ?_
    refine k_then ?_
    refine c_seq ?_
    refine c_seq ?_
    refine c_reg ?_
    refine o_ld (lv_v rfl) rfl (cut_all (T_coded_Coded.len _ _)) (T_coded_Coded.copy wr_l _) ?_
    obtain ⟨y16, hy16, h⟩ := bind_some h
    refine o_call rfl (g_cons (gt_ rfl (copy_of_agg _)) (g_cons gk_ g_nil)) (s_law18_vast k _ _ _ hy16 _) ?_
    refine o_mvt rfl (copy_of_bool _) ?_
    have key2 : ∀ ρ : Nat → Slot, wpo (Ev P) (a3_r3.drop 7) ((a3_q2 (retN a3.res (.bool r))) .normal) ⟨upds ρ [(1, .d (.list (x1.map T_coded_Coded.enc))), (2, .var (T_coded_Coded.cells lw x0)), (21, .d (.bool (y16 || (decide ((x1.length : Int) > 12)))))], H⟩ := by
      intro ρ
      refine o_nil ?_
      refine k_then ?_
      by_cases c4 : (y16 || (decide ((x1.length : Int) > 12))) = true
      · have h := it_t h c4
        refine c_cond_t (vt rfl (copy_of_bool _)) c4 ?_
        refine c_seq ?_
        refine c_reg ?_
        refine o_mvk ?_
        refine o_nil ?_
        refine k_then ?_
        refine c_ret ?_
        refine k_then_ret ?_
        obtain rfl := Option.some.inj h
        exact r_one rfl (res_t rfl (copy_of_bool _)) (.inl rfl)
      · have c4 := bf c4
        have h := it_f h c4
        refine c_cond_f (vt rfl (copy_of_bool _)) c4 ?_
        refine c_skip ?_
        refine k_then ?_
        refine c_seq ?_
        refine c_reg ?_
        refine o_mvk ?_
        refine o_nil ?_
        refine k_then ?_
        refine c_seq ?_
        refine c_seq ?_
        refine c_reg ?_
        refine o_mvk ?_
        refine o_nil ?_
        refine k_then ?_
        refine c_block ?_
        exact wpc_head (ih.law18_SimpSays_L1 _ _ _ _ _ _ _ h) ⟨rfl, rfl, rfl, rfl, trivial⟩
    by_cases c3 : y16 = true
    · clear h
      refine o_g_f rfl (ne_t c3) ?_
      refine o_g_f rfl (ne_t c3) ?_
      refine o_g_f rfl (ne_t c3) ?_
      refine o_pick_t (vt rfl (copy_of_bool _)) c3 (vk (copy_of_bool _)) ?_
      exact wpo_head (key2 _) ⟨rfl, rfl, (by simp only [c3]; rfl), trivial⟩
    · clear h
      have c3 := bf c3
      refine o_g_t rfl c3 ?_
      refine o_mvt rfl (copy_of_list _) ?_
      refine o_g_t rfl c3 ?_
      refine o_len_l (vt rfl (copy_of_list _)) (fun _ => ?_)
      refine o_g_t rfl c3 ?_
      refine o_bin (vt rfl (copy_of_int _ _)) (vk (copy_of_int _ _)) bin_gtr ?_
      refine o_pick_f (vt rfl (copy_of_bool _)) c3 (vt rfl (copy_of_bool _)) ?_
      exact wpo_head (key2 _) ⟨rfl, rfl, (by simp only [c3]; rfl), trivial⟩
theorem t_law18_SimpSays_L1 (k : Nat) (ih : C_law18_SimpSays k) : S_law18_SimpSays_L1 (k + 1) := by
  intro t1 v2 t5 t6 r ρ H h
  rw [law18_SimpSays_L1] at h
  refine wpc_loop_i ?_
  refine c_seq ?_
  refine c_seq ?_
  refine c_reg ?_
  refine o_mvt rfl (copy_of_int _ _) ?_
  refine o_mvt rfl (copy_of_list _) ?_
  refine o_len_l (vt rfl (copy_of_list _)) (fun _ => ?_)
  refine o_bin (vt rfl (copy_of_int _ _)) (vt rfl (copy_of_int _ _)) bin_lss ?_
  refine o_nil ?_
  refine k_then ?_
  by_cases c1 : (decide (t6 < (t1.length : Int))) = true
  · have h := it_t h c1
    refine c_cond_t (vt rfl (copy_of_bool _)) c1 ?_
    refine c_skip ?_
    refine k_then ?_
    refine c_seq ?_
    refine c_block ?_
    refine c_seq ?_
    refine c_seq ?_
    refine c_reg ?_
    refine o_mvt rfl (copy_of_list _) ?_
    refine o_mvt rfl (copy_of_int _ _) ?_
    obtain ⟨y30, hy30, h⟩ := bind_some h
    refine o_ias (vt rfl (copy_of_list _)) (vt rfl (copy_of_int _ _)) hy30 (T_coded_Coded.enc_cells _) (T_coded_Coded.len lw _) ?_
    refine o_ldi rfl (cut_all (T_coded_Coded.len _ _)) (T_coded_Coded.copy wr_l _) ?_
    obtain ⟨y32, hy32, h⟩ := bind_some h
    refine o_call rfl (g_cons (gt_ rfl (copy_of_agg _)) (g_cons gk_ g_nil)) (s_law18_vast k _ _ _ hy32 _) ?_
    refine o_mvt rfl (copy_of_bool _) ?_
    by_cases c2 : y32 = true
    · have h := it_t h c2
      refine o_g_f rfl (ne_t c2) ?_
      refine o_g_f rfl (ne_t c2) ?_
      refine o_g_f rfl (ne_t c2) ?_
      refine o_g_f rfl (ne_t c2) ?_
      refine o_g_f rfl (ne_t c2) ?_
      refine o_g_f rfl (ne_t c2) ?_
      refine o_pick_t (vt rfl (copy_of_bool _)) c2 (vk (copy_of_bool _)) ?_
      refine o_nil ?_
      refine k_then ?_
      exact wpc_head (ih.law18_SimpSays_J1 _ _ _ _ _ _ _ _ h) ⟨rfl, rfl, rfl, rfl, rfl, trivial⟩
    · have c2 := bf c2
      have h := it_f h c2
      refine o_g_t rfl c2 ?_
      refine o_mvt rfl (copy_of_list _) ?_
      refine o_g_t rfl c2 ?_
      refine o_mvt rfl (copy_of_int _ _) ?_
      refine o_g_t rfl c2 ?_
      obtain ⟨y36, hy36, h⟩ := bind_some h
      refine o_ias (vt rfl (copy_of_list _)) (vt rfl (copy_of_int _ _)) hy36 (T_coded_Coded.enc_cells _) (T_coded_Coded.len lw _) ?_
      refine o_g_t rfl c2 ?_
      refine o_ldi rfl (cut_all (T_coded_Coded.len _ _)) (T_coded_Coded.copy wr_l _) ?_
      refine o_g_t rfl c2 ?_
      obtain ⟨y38, hy38, h⟩ := bind_some h
      refine o_call rfl (g_cons (gt_ rfl (copy_of_agg _)) g_nil) (s_coded_Good k _ _ hy38 _) ?_
      refine o_g_t rfl c2 ?_
      refine o_un (vt rfl (copy_of_bool _)) un_not ?_
      refine o_pick_f (vt rfl (copy_of_bool _)) c2 (vt rfl (copy_of_bool _)) ?_
      refine o_nil ?_
      refine k_then ?_
      exact wpc_head (ih.law18_SimpSays_J1 _ _ _ _ _ _ _ _ h) ⟨rfl, rfl, rfl, rfl, rfl, trivial⟩
  · have c1 := bf c1
    have h := it_f h c1
    refine c_cond_f (vt rfl (copy_of_bool _)) c1 ?_
    refine c_exit ?_
    refine k_then_exit ?_
    refine k_then_exit ?_
    refine k_block_exit _ ?_
    refine k_then ?_
    refine c_seq ?_
    refine c_reg ?_
    refine o_mvt rfl (copy_of_list _) ?_
    obtain ⟨y50, hy50, h⟩ := bind_some h
    refine o_call rfl (g_cons (gt_ rfl (copy_of_list _)) g_nil) (s_simp_Flat k _ _ hy50 _) ?_
    refine o_mvt rfl (copy_of_own _ _) ?_
    obtain ⟨y52, hy52, h⟩ := bind_some h
    refine o_call rfl (g_cons (gt_ rfl (copy_of_list _)) g_nil) (s_ref17_Flat k _ _ hy52 _) ?_
    refine o_mvt rfl (copy_of_list _) ?_
    refine o_mvt rfl (copy_of_list _) ?_
    refine o_nil ?_
    refine k_then ?_
    refine c_seq ?_
    refine c_reg ?_
    refine o_mvt rfl (copy_of_list _) ?_
    obtain ⟨y54, hy54, h⟩ := bind_some h
    refine o_call rfl (g_cons (gt_ rfl (copy_of_list _)) g_nil) (s_simp_Once k _ _ hy54 _) ?_
    refine o_mvt rfl (copy_of_own _ _) ?_
    obtain ⟨y56, hy56, h⟩ := bind_some h
    refine o_call rfl (g_cons (gt_ rfl (copy_of_list _)) g_nil) (s_ref17_Once k _ _ hy56 _) ?_
    refine o_mvt rfl (copy_of_list _) ?_
    refine o_mvt rfl (copy_of_list _) ?_
    refine o_nil ?_
    refine k_then ?_
    refine c_seq ?_
    refine c_seq ?_
    refine c_reg ?_
    refine o_mvt rfl (copy_of_list _) ?_
    refine o_len_l (vt rfl (copy_of_list _)) (fun _ => ?_)
    refine o_mvt rfl (copy_of_list _) ?_
    refine o_len_l (vt rfl (copy_of_list _)) (fun _ => ?_)
    refine o_bin (vt rfl (copy_of_int _ _)) (vt rfl (copy_of_int _ _)) bin_neq ?_
    refine o_mvt rfl (copy_of_bool _) ?_
    have key3 : ∀ ρ : Nat → Slot, wpo (Ev P) (a3_r14.drop 12) ((a3_q4 (retN a3.res (.bool r))) .normal) ⟨upds ρ [(2, .var (T_coded_Coded.cells lw v2)), (7, .d (.list (y50.map T_coded_Coded.enc))), (8, .d (.list (y52.map T_ref17_Coded.enc))), (9, .d (.list (y54.map T_coded_Coded.enc))), (10, .d (.list (y56.map T_ref17_Coded.enc))), (68, .d (.bool (((y50.length : Int) != (y52.length : Int)) || ((y54.length : Int) != (y56.length : Int)))))], H⟩ := by
      intro ρ
      refine o_nil ?_
      refine k_then ?_
      by_cases c5 : (((y50.length : Int) != (y52.length : Int)) || ((y54.length : Int) != (y56.length : Int))) = true
      · have h := it_t h c5
        refine c_cond_t (vt rfl (copy_of_bool _)) c5 ?_
        refine c_seq ?_
        refine c_reg ?_
        refine o_mvk ?_
        refine o_nil ?_
        refine k_then ?_
        refine c_ret ?_
        refine k_then_ret ?_
        obtain rfl := Option.some.inj h
        exact r_one rfl (res_t rfl (copy_of_bool _)) (.inl rfl)
      · have c5 := bf c5
        have h := it_f h c5
        refine c_cond_f (vt rfl (copy_of_bool _)) c5 ?_
        refine c_skip ?_
        refine k_then ?_
        refine c_seq ?_
        refine c_seq ?_
        refine c_reg ?_
        refine o_mvk ?_
        refine o_nil ?_
        refine k_then ?_
        refine c_block ?_
        exact wpc_head (ih.law18_SimpSays_L2 _ _ _ _ _ _ _ _ _ h) ⟨rfl, rfl, rfl, rfl, rfl, rfl, trivial⟩
    by_cases c4 : ((y50.length : Int) != (y52.length : Int)) = true
    · clear h
      refine o_g_f rfl (ne_t c4) ?_
      refine o_g_f rfl (ne_t c4) ?_
      refine o_g_f rfl (ne_t c4) ?_
      refine o_g_f rfl (ne_t c4) ?_
      refine o_g_f rfl (ne_t c4) ?_
      refine o_pick_t (vt rfl (copy_of_bool _)) c4 (vk (copy_of_bool _)) ?_
      exact wpo_head (key3 _) ⟨rfl, rfl, rfl, rfl, rfl, (by simp only [c4]; rfl), trivial⟩
    · clear h
      have c4 := bf c4
      refine o_g_t rfl c4 ?_
      refine o_mvt rfl (copy_of_list _) ?_
      refine o_g_t rfl c4 ?_
      refine o_len_l (vt rfl (copy_of_list _)) (fun _ => ?_)
      refine o_g_t rfl c4 ?_
      refine o_mvt rfl (copy_of_list _) ?_
      refine o_g_t rfl c4 ?_
      refine o_len_l (vt rfl (copy_of_list _)) (fun _ => ?_)
      refine o_g_t rfl c4 ?_
      refine o_bin (vt rfl (copy_of_int _ _)) (vt rfl (copy_of_int _ _)) bin_neq ?_
      refine o_pick_f (vt rfl (copy_of_bool _)) c4 (vt rfl (copy_of_bool _)) ?_
      exact wpo_head (key3 _) ⟨rfl, rfl, rfl, rfl, rfl, (by simp only [c4]; rfl), trivial⟩
theorem t_law18_SimpSays_J1 (k : Nat) (ih : C_law18_SimpSays k) : S_law18_SimpSays_J1 (k + 1) := by
  intro t1 v2 t5 t6 t40 r ρ H h
  rw [law18_SimpSays_J1] at h
  by_cases c1 : t40 = true
  · have h := it_t h c1
    refine c_cond_t (vt rfl (copy_of_bool _)) c1 ?_
    refine c_seq ?_
    refine c_reg ?_
    refine o_mvk ?_
    refine o_nil ?_
    refine k_then ?_
    refine c_ret ?_
    refine k_then_ret ?_
    refine k_block_ret ?_
    refine k_then_ret ?_
    refine k_then_ret ?_
    refine k_block_ret ?_
    refine k_then_ret ?_
    obtain rfl := Option.some.inj h
    exact r_one rfl (res_t rfl (copy_of_bool _)) (.inl rfl)
  · have c1 := bf c1
    have h := it_f h c1
    refine c_cond_f (vt rfl (copy_of_bool _)) c1 ?_
    refine c_skip ?_
    refine k_then ?_
    refine c_reg ?_
    refine o_mvx rfl ?_
    refine o_mvt rfl (copy_of_list _) ?_
    refine o_mvt rfl (copy_of_int _ _) ?_
    obtain ⟨y44, hy44, h⟩ := bind_some h
    refine o_ias (vt rfl (copy_of_list _)) (vt rfl (copy_of_int _ _)) hy44 (T_coded_Coded.enc_cells _) (T_coded_Coded.len lw _) ?_
    refine o_ldi rfl (cut_all (T_coded_Coded.len _ _)) (T_coded_Coded.copy wr_l _) ?_
    obtain ⟨y46, hy46, h⟩ := bind_some h
    refine o_call rfl (g_cons (gt_ rfl (copy_of_agg _)) g_nil) (s_law18_codedOf k _ _ hy46 _) ?_
    refine o_bsl (f := T_ref17_Coded.enc) (v_cons (vt rfl (copy_of_agg _)) v_nil) (l_cons (T_ref17_Coded.enc_eq _).symm l_nil) T_ref17_Coded.elem ?_
    obtain ⟨c2, h⟩ := need_some h
    refine o_app (f := T_ref17_Coded.enc) (xs := t5) (ys := ([y46])) T_ref17_Coded.elem rfl (vt rfl (copy_of_own _ _)) c2 ?_
    refine o_mvx rfl ?_
    refine o_nil ?_
    refine k_block _ ?_
    refine k_then ?_
    refine c_reg ?_
    refine o_mvt rfl (copy_of_int _ _) ?_
    refine o_bin (vt rfl (copy_of_int _ _)) (vk (copy_of_int _ _)) bin_add ?_
    refine o_mvt rfl (copy_of_int _ _) ?_
    refine o_nil ?_
    refine k_then ?_
    exact wpc_head (ih.law18_SimpSays_L1 _ _ _ _ _ _ _ h) ⟨rfl, rfl, rfl, rfl, trivial⟩
theorem t_law18_SimpSays_L2 (k : Nat) (ih : C_law18_SimpSays k) : S_law18_SimpSays_L2 (k + 1) := by
  intro v2 t7 t8 t9 t10 t11 r ρ H h
  rw [law18_SimpSays_L2] at h
  refine wpc_loop_i ?_
  refine c_seq ?_
  refine c_seq ?_
  refine c_reg ?_
  refine o_mvt rfl (copy_of_int _ _) ?_
  refine o_mvt rfl (copy_of_list _) ?_
  refine o_len_l (vt rfl (copy_of_list _)) (fun _ => ?_)
  refine o_bin (vt rfl (copy_of_int _ _)) (vt rfl (copy_of_int _ _)) bin_lss ?_
  refine o_nil ?_
  refine k_then ?_
  by_cases c1 : (decide (t11 < (t7.length : Int))) = true
  · have h := it_t h c1
    refine c_cond_t (vt rfl (copy_of_bool _)) c1 ?_
    refine c_skip ?_
    refine k_then ?_
    refine c_seq ?_
    refine c_block ?_
    refine c_seq ?_
    refine c_reg ?_
    refine o_mvt rfl (copy_of_list _) ?_
    refine o_mvt rfl (copy_of_int _ _) ?_
    obtain ⟨y77, hy77, h⟩ := bind_some h
    refine o_ias (vt rfl (copy_of_list _)) (vt rfl (copy_of_int _ _)) hy77 (T_coded_Coded.enc_cells _) (T_coded_Coded.len lw _) ?_
    refine o_ldI rfl (cut_all (T_coded_Coded.len _ _)) (T_coded_Coded.copy wr_l _) ?_
    obtain ⟨y79, hy79, h⟩ := bind_some h
    refine o_callq (g_cons (gt_ rfl (copy_of_agg _)) g_nil) (s_law18_codedOf k _ _ hy79 _) ?_
    refine o_mvt rfl (copy_of_list _) ?_
    refine o_mvt rfl (copy_of_int _ _) ?_
    obtain ⟨y82, hy82, h⟩ := bind_some h
    refine o_ias (vt rfl (copy_of_list _)) (vt rfl (copy_of_int _ _)) hy82 (T_ref17_Coded.enc_cells _) (T_ref17_Coded.len lw _) ?_
    refine o_ldI rfl (cut_all (T_ref17_Coded.len _ _)) (T_ref17_Coded.copy wr_l _) ?_
    obtain ⟨y84, hy84, h⟩ := bind_some h
    refine o_callq (g_cons (gt_ rfl (copy_of_agg _)) (g_cons (gt_ rfl (copy_of_agg _)) g_nil)) (s_ref17_Alike k _ _ _ hy84 _) ?_
    refine o_un (vt rfl (copy_of_bool _)) un_not ?_
    refine o_nil ?_
    refine k_then ?_
    by_cases c2 : (!y84) = true
    · have h := it_t h c2
      refine c_cond_t (vt rfl (copy_of_bool _)) c2 ?_
      refine c_seq ?_
      refine c_reg ?_
      refine o_mvk ?_
      refine o_nil ?_
      refine k_then ?_
      refine c_ret ?_
      refine k_block_ret ?_
      refine k_then_ret ?_
      refine k_then_ret ?_
      refine k_block_ret ?_
      refine k_then_ret ?_
      obtain rfl := Option.some.inj h
      exact r_one rfl (res_t rfl (copy_of_bool _)) (.inl rfl)
    · have c2 := bf c2
      have h := it_f h c2
      refine c_cond_f (vt rfl (copy_of_bool _)) c2 ?_
      refine c_skip ?_
      refine k_block _ ?_
      refine k_then ?_
      refine c_reg ?_
      refine o_mvt rfl (copy_of_int _ _) ?_
      refine o_bin (vt rfl (copy_of_int _ _)) (vk (copy_of_int _ _)) bin_add ?_
      refine o_mvt rfl (copy_of_int _ _) ?_
      refine o_nil ?_
      refine k_then ?_
      exact wpc_head (ih.law18_SimpSays_L2 _ _ _ _ _ _ _ _ _ h) ⟨rfl, rfl, rfl, rfl, rfl, rfl, trivial⟩
  · have c1 := bf c1
    have h := it_f h c1
    refine c_cond_f (vt rfl (copy_of_bool _)) c1 ?_
    refine c_exit ?_
    refine k_then_exit ?_
    refine k_then_exit ?_
    refine k_block_exit _ ?_
    refine k_then ?_
    refine c_seq ?_
    refine c_seq ?_
    refine c_reg ?_
    refine o_mvk ?_
    refine o_nil ?_
    refine k_then ?_
    refine c_block ?_
    exact wpc_head (ih.law18_SimpSays_L3 _ _ _ _ _ _ _ h) ⟨rfl, rfl, rfl, rfl, trivial⟩
theorem t_law18_SimpSays_L3 (k : Nat) (ih : C_law18_SimpSays k) : S_law18_SimpSays_L3 (k + 1) := by
  intro v2 t9 t10 t12 r ρ H h
  rw [law18_SimpSays_L3] at h
  refine wpc_loop_i ?_
  refine c_seq ?_
  refine c_seq ?_
  refine c_reg ?_
  refine o_mvt rfl (copy_of_int _ _) ?_
  refine o_mvt rfl (copy_of_list _) ?_
  refine o_len_l (vt rfl (copy_of_list _)) (fun _ => ?_)
  refine o_bin (vt rfl (copy_of_int _ _)) (vt rfl (copy_of_int _ _)) bin_lss ?_
  refine o_nil ?_
  refine k_then ?_
  by_cases c1 : (decide (t12 < (t9.length : Int))) = true
  · have h := it_t h c1
    refine c_cond_t (vt rfl (copy_of_bool _)) c1 ?_
    refine c_skip ?_
    refine k_then ?_
    refine c_seq ?_
    refine c_block ?_
    refine c_seq ?_
    refine c_reg ?_
    refine o_mvt rfl (copy_of_list _) ?_
    refine o_mvt rfl (copy_of_int _ _) ?_
    obtain ⟨y94, hy94, h⟩ := bind_some h
    refine o_ias (vt rfl (copy_of_list _)) (vt rfl (copy_of_int _ _)) hy94 (T_coded_Coded.enc_cells _) (T_coded_Coded.len lw _) ?_
    refine o_ldI rfl (cut_all (T_coded_Coded.len _ _)) (T_coded_Coded.copy wr_l _) ?_
    obtain ⟨y96, hy96, h⟩ := bind_some h
    refine o_callq (g_cons (gt_ rfl (copy_of_agg _)) g_nil) (s_law18_codedOf k _ _ hy96 _) ?_
    refine o_mvt rfl (copy_of_list _) ?_
    refine o_mvt rfl (copy_of_int _ _) ?_
    obtain ⟨y99, hy99, h⟩ := bind_some h
    refine o_ias (vt rfl (copy_of_list _)) (vt rfl (copy_of_int _ _)) hy99 (T_ref17_Coded.enc_cells _) (T_ref17_Coded.len lw _) ?_
    refine o_ldI rfl (cut_all (T_ref17_Coded.len _ _)) (T_ref17_Coded.copy wr_l _) ?_
    obtain ⟨y101, hy101, h⟩ := bind_some h
    refine o_callq (g_cons (gt_ rfl (copy_of_agg _)) (g_cons (gt_ rfl (copy_of_agg _)) g_nil)) (s_ref17_Alike k _ _ _ hy101 _) ?_
    refine o_un (vt rfl (copy_of_bool _)) un_not ?_
    refine o_nil ?_
    refine k_then ?_
    by_cases c2 : (!y101) = true
    · have h := it_t h c2
      refine c_cond_t (vt rfl (copy_of_bool _)) c2 ?_
      refine c_seq ?_
      refine c_reg ?_
      refine o_mvk ?_
      refine o_nil ?_
      refine k_then ?_
      refine c_ret ?_
      refine k_block_ret ?_
      refine k_then_ret ?_
      refine k_then_ret ?_
      refine k_block_ret ?_
      refine k_then_ret ?_
      obtain rfl := Option.some.inj h
      exact r_one rfl (res_t rfl (copy_of_bool _)) (.inl rfl)
    · have c2 := bf c2
      have h := it_f h c2
      refine c_cond_f (vt rfl (copy_of_bool _)) c2 ?_
      refine c_skip ?_
      refine k_block _ ?_
      refine k_then ?_
      refine c_reg ?_
      refine o_mvt rfl (copy_of_int _ _) ?_
      refine o_bin (vt rfl (copy_of_int _ _)) (vk (copy_of_int _ _)) bin_add ?_
      refine o_mvt rfl (copy_of_int _ _) ?_
      refine o_nil ?_
      refine k_then ?_
      exact wpc_head (ih.law18_SimpSays_L3 _ _ _ _ _ _ _ h) ⟨rfl, rfl, rfl, rfl, trivial⟩
  · have c1 := bf c1
    have h := it_f h c1
    refine c_cond_f (vt rfl (copy_of_bool _)) c1 ?_
    refine c_exit ?_
    refine k_then_exit ?_
    refine k_then_exit ?_
    refine k_block_exit _ ?_
    refine k_then ?_
    refine c_seq ?_
    refine c_reg ?_
    refine o_ldv (lv_v rfl) rfl (cut_all (T_coded_Coded.len _ _)) (T_coded_Coded.copy wr_l _) ?_
    obtain ⟨y104, hy104, h⟩ := bind_some h
    refine o_callq (g_cons (gt_ rfl (copy_of_agg _)) g_nil) (s_simp_Of k _ _ hy104 _) ?_
    obtain ⟨y105, hy105, h⟩ := bind_some h
    refine o_callq (g_cons (gt_ rfl (copy_of_agg _)) g_nil) (s_law18_codedOf k _ _ hy105 _) ?_
    refine o_ldv (lv_v rfl) rfl (cut_all (T_coded_Coded.len _ _)) (T_coded_Coded.copy wr_l _) ?_
    obtain ⟨y107, hy107, h⟩ := bind_some h
    refine o_callq (g_cons (gt_ rfl (copy_of_agg _)) g_nil) (s_law18_codedOf k _ _ hy107 _) ?_
    obtain ⟨y108, hy108, h⟩ := bind_some h
    refine o_callq (g_cons (gt_ rfl (copy_of_agg _)) g_nil) (s_ref17_Simp k _ _ hy108 _) ?_
    obtain ⟨y109, hy109, h⟩ := bind_some h
    refine o_callq (g_cons (gt_ rfl (copy_of_agg _)) (g_cons (gt_ rfl (copy_of_agg _)) g_nil)) (s_ref17_Alike k _ _ _ hy109 _) ?_
    refine o_mvt rfl (copy_of_bool _) ?_
    refine o_nil ?_
    refine k_then ?_
    refine c_ret ?_
    obtain rfl := Option.some.inj h
    exact r_one rfl (res_t rfl (copy_of_bool _)) (.inl rfl)
theorem z_law18_SimpSays : S_law18_SimpSays 0 := by
  intro x0 x1 r h H
  rw [law18_SimpSays] at h; cases h
theorem z_law18_SimpSays_L1 : S_law18_SimpSays_L1 0 := by
  intro t1 v2 t5 t6 r ρ H h
  rw [law18_SimpSays_L1] at h; cases h
theorem z_law18_SimpSays_J1 : S_law18_SimpSays_J1 0 := by
  intro t1 v2 t5 t6 t40 r ρ H h
  rw [law18_SimpSays_J1] at h; cases h
theorem z_law18_SimpSays_L2 : S_law18_SimpSays_L2 0 := by
  intro v2 t7 t8 t9 t10 t11 r ρ H h
  rw [law18_SimpSays_L2] at h; cases h
theorem z_law18_SimpSays_L3 : S_law18_SimpSays_L3 0 := by
  intro v2 t9 t10 t12 r ρ H h
  rw [law18_SimpSays_L3] at h; cases h
theorem C_law18_SimpSays.all : ∀ k, C_law18_SimpSays k
  | 0 => ⟨z_law18_SimpSays, z_law18_SimpSays_L1, z_law18_SimpSays_J1, z_law18_SimpSays_L2, z_law18_SimpSays_L3⟩
  | k + 1 => ⟨t_law18_SimpSays k (C_law18_SimpSays.all k), t_law18_SimpSays_L1 k (C_law18_SimpSays.all k), t_law18_SimpSays_J1 k (C_law18_SimpSays.all k), t_law18_SimpSays_L2 k (C_law18_SimpSays.all k), t_law18_SimpSays_L3 k (C_law18_SimpSays.all k)⟩
theorem s_law18_SimpSays (k : Nat) : S_law18_SimpSays k := (C_law18_SimpSays.all k).law18_SimpSays
end Go.Am
