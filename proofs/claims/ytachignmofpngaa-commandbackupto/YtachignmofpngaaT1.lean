/- Conditions for functions of the program to run, as the program that read the translation printed them, each linked to the translation by the kernel. -/
import Derived.Test.YtachignmofpngaaProg
import Derived.Test.YtachignmofpngaaVcSound
set_option linter.unusedVariables false
set_option maxRecDepth 100000
namespace Go.Proofs.Ytachignmofpngaa
open Go Go.Vc

/-- furlong/furlonglaw10.CommandEntries: function 3 -/
def C_furlonglaw10_CommandEntries (x0 : Value) (w : World) (R : Value → World → Prop) : Prop :=
  Do Try.prog (Instr.box 34 x0) w fun e_1_1 w_2 =>
  CallF Try.prog 10 #[] w_2 fun t8_3 w_4 =>
  Un Try.prog (At w_4) .not t8_3 fun t9_5 =>
  If t9_5 (
   R (.bool false) w_4) (
   LdA (At w_4) 27 e_1_1 fun t10_6 =>
   CallF Try.prog 11 #[t10_6] w_4 fun t11_7 w_8 =>
   Do Try.prog (Instr.alloc 34 true (.tuple #[])) w_8 fun in_3_9 w_10 =>
   DoU Try.prog (Instr.storeAt 34 in_3_9 t11_7) w_10 fun u_11 w_12 =>
   LdA (At w_12) 27 in_3_9 fun t13_13 =>
   CallF Try.prog 12 #[t13_13] w_12 fun t14_14 w_15 =>
   Ext t14_14 0 fun t15_16 =>
   Ext t14_14 1 fun t16_17 =>
   LdA (At w_15) 27 e_1_1 fun t18_18 =>
   CallF Try.prog 13 #[t18_18] w_15 fun t19_19 w_20 =>
   Ext t19_19 0 fun t20_21 =>
   Ext t19_19 1 fun t21_22 =>
   CallF Try.prog 14 #[t15_16, t20_21] w_20 fun t24_23 w_24 =>
   GdP (isB t24_23 true) (fun R => R t16_17) fun t26_25 =>
   GdP (isB t24_23 true) (fun R => R t21_22) fun t27_26 =>
   GdP (isB t24_23 true) (fun R => Bin Try.prog (At w_24) .eql 38 false false t26_25 t27_26 R) fun t28_27 =>
   Pick t24_23 t28_27 (.bool false) fun t29_28 =>
   GdP (isB t29_28 true) (fun R => LdA (At w_24) 27 in_3_9 R) fun t31_29 =>
   GdP (isB t29_28 true) (fun R => LdA (At w_24) 27 e_1_1 R) fun t32_30 =>
   Gd (isB t29_28 true) (fun R => CallF Try.prog 15 #[t31_29, t32_30] w_24 R) w_24 fun t33_31 w_32 =>
   Pick t29_28 t33_31 (.bool false) fun t34_33 =>
   R t34_33 w_32)
theorem C_furlonglaw10_CommandEntries_ent : Ent Try.prog 3 := ⟨_, Try.func3, by decide, rfl⟩
theorem C_furlonglaw10_CommandEntries_link {x0 : Value} {w : World} {R : Value → World → Prop} (h : C_furlonglaw10_CommandEntries x0 w R) : CallF Try.prog 3 #[x0] w R :=
  callF_vFun (L := [0, 1, 2, 3, 4, 5, 6, 7, 9]) (args := [x0]) C_furlonglaw10_CommandEntries_ent Try.func3 rfl (Eq.mp (show (C_furlonglaw10_CommandEntries x0 w R) = vFun Try.prog Try.f3 [0, 1, 2, 3, 4, 5, 6, 7, 9] [x0] w R by kernel_rfl) h)

/-- furlong/furlonglaw10.CommandCuts: function 4 -/
def C_furlonglaw10_CommandCuts (x0 : Value) (x1 : Value) (x2 : Value) (w : World) (R : Value → World → Prop) : Prop :=
  Do Try.prog (Instr.box 34 x0) w fun e_3_1 w_2 =>
  CallF Try.prog 10 #[] w_2 fun t15_3 w_4 =>
  Un Try.prog (At w_4) .not t15_3 fun t16_5 =>
  If t16_5 (
   R (.bool false) w_4) (
   LdA (At w_4) 27 e_3_1 fun t18_6 =>
   CallF Try.prog 12 #[t18_6] w_4 fun t19_7 w_8 =>
   Ext t19_7 0 fun t20_9 =>
   Ext t19_7 1 fun t21_10 =>
   Bin Try.prog (At w_8) .neq 38 false true t21_10 (.int .i64 0) fun t23_11 =>
   GdP (isB t23_11 false) (fun R => R t20_9) fun t25_12 =>
   GdP (isB t23_11 false) (fun R => Len t25_12 R) fun t26_13 =>
   GdP (isB t23_11 false) (fun R => Bin Try.prog (At w_8) .eql 3 false true t26_13 (.int .i64 0) R) fun t27_14 =>
   Pick t23_11 (.bool true) t27_14 fun t28_15 =>
   If t28_15 (
    Bin Try.prog (At w_8) .neq 38 false true t21_10 (.int .i64 0) fun t30_16 =>
    R t30_16 w_8) (
    Bin Try.prog (At w_8) .lss 3 false true x1 (.int .i64 0) fun t32_17 =>
    GdP (isB t32_17 false) (fun R => R x1) fun t34_18 =>
    GdP (isB t32_17 false) (fun R => R t20_9) fun t35_19 =>
    GdP (isB t32_17 false) (fun R => Len t35_19 R) fun t36_20 =>
    GdP (isB t32_17 false) (fun R => Bin Try.prog (At w_8) .geq 3 false false t34_18 t36_20 R) fun t37_21 =>
    Pick t32_17 (.bool true) t37_21 fun t38_22 =>
    ∃ J_23 : Value → World → Prop,
    (∀ cut_1_24, ∀ w_25, J_23 cut_1_24 w_25 → (
     SlcS 1 t20_9 none (some cut_1_24) none fun t45_26 =>
     CallF Try.prog 16 #[t45_26] w_25 fun t46_27 w_28 =>
     Ext t46_27 0 fun t47_29 =>
     Ext t46_27 1 fun t48_30 =>
     Ext t46_27 2 fun t49_31 =>
     Do Try.prog (Instr.alloc 34 true (.tuple #[])) w_28 fun t9_32 w_33 =>
     DoU Try.prog (Instr.storeAt 34 t9_32 t47_29) w_33 fun u_34 w_35 =>
     Do Try.prog (Instr.buildSlice 37 0 #[]) w_35 fun t51_36 w_37 =>
     Do Try.prog (Builtin.append_ #[37, 37] 37 #[t51_36, t20_9]) w_37 fun t53_38 w_39 =>
     Do Try.prog (Instr.buildSlice 37 1 #[(0, x2)]) w_39 fun t55_40 w_41 =>
     Do Try.prog (Builtin.append_ #[37, 37] 37 #[t53_38, t55_40]) w_41 fun t56_42 w_43 =>
     CallF Try.prog 16 #[t56_42] w_43 fun t57_44 w_45 =>
     Ext t57_44 0 fun t58_46 =>
     Ext t57_44 1 fun t59_47 =>
     Ext t57_44 2 fun t60_48 =>
     Do Try.prog (Instr.alloc 34 true (.tuple #[])) w_45 fun y_12_49 w_50 =>
     DoU Try.prog (Instr.storeAt 34 y_12_49 t58_46) w_50 fun u_51 w_52 =>
     Bin Try.prog (At w_52) .eql 38 false true t49_31 (.int .i64 5) fun t62_53 =>
     GdP (isB t62_53 true) (fun R => R t48_30) fun t64_54 =>
     GdP (isB t62_53 true) (fun R => R cut_1_24) fun t65_55 =>
     GdP (isB t62_53 true) (fun R => Bin Try.prog (At w_52) .eql 3 false false t64_54 t65_55 R) fun t66_56 =>
     Pick t62_53 t66_56 (.bool false) fun t67_57 =>
     GdP (isB t67_57 true) (fun R => R t60_48) fun t69_58 =>
     GdP (isB t67_57 true) (fun R => Bin Try.prog (At w_52) .eql 38 false true t69_58 (.int .i64 7) R) fun t70_59 =>
     Pick t67_57 t70_59 (.bool false) fun t71_60 =>
     GdP (isB t71_60 true) (fun R => R t59_47) fun t73_61 =>
     GdP (isB t71_60 true) (fun R => R t20_9) fun t74_62 =>
     GdP (isB t71_60 true) (fun R => Len t74_62 R) fun t75_63 =>
     GdP (isB t71_60 true) (fun R => Bin Try.prog (At w_52) .eql 3 false false t73_61 t75_63 R) fun t76_64 =>
     Pick t71_60 t76_64 (.bool false) fun t77_65 =>
     GdP (isB t77_65 true) (fun R => LdA (At w_52) 27 y_12_49 R) fun t79_66 =>
     GdP (isB t77_65 true) (fun R => Bld Try.prog 34 [] R) fun t80_67 =>
     Gd (isB t77_65 true) (fun R => CallF Try.prog 15 #[t79_66, t80_67] w_52 R) w_52 fun t81_68 w_69 =>
     Pick t77_65 t81_68 (.bool false) fun t82_70 =>
     R t82_70 w_69)) ∧
    If t38_22 (
     Len t20_9 fun t40_71 =>
     Bin Try.prog (At w_8) .sub 3 false true t40_71 (.int .i64 1) fun t41_72 =>
     J_23 t41_72 w_8) (
     J_23 x1 w_8)))
theorem C_furlonglaw10_CommandCuts_ent : Ent Try.prog 4 := ⟨_, Try.func4, by decide, rfl⟩
theorem C_furlonglaw10_CommandCuts_link {x0 x1 x2 : Value} {w : World} {R : Value → World → Prop} (h : C_furlonglaw10_CommandCuts x0 x1 x2 w R) : CallF Try.prog 4 #[x0, x1, x2] w R :=
  callF_vFun (L := [0, 1, 2, 3, 6, 7, 8, 10, 11, 12, 13, 14, 16, 28, 38]) (args := [x0, x1, x2]) C_furlonglaw10_CommandCuts_ent Try.func4 rfl (Eq.mp (show (C_furlonglaw10_CommandCuts x0 x1 x2 w R) = vFun Try.prog Try.f4 [0, 1, 2, 3, 6, 7, 8, 10, 11, 12, 13, 14, 16, 28, 38] [x0, x1, x2] w R by kernel_rfl) h)

/-- furlong/furlonglaw10.CommandApart: function 5 -/
def C_furlonglaw10_CommandApart (x0 : Value) (x1 : Value) (w : World) (R : Value → World → Prop) : Prop :=
  Do Try.prog (Instr.box 34 x0) w fun a_2_1 w_2 =>
  Do Try.prog (Instr.box 34 x1) w_2 fun b_3_3 w_4 =>
  CallF Try.prog 10 #[] w_4 fun t9_5 w_6 =>
  Un Try.prog (At w_6) .not t9_5 fun t10_7 =>
  If t10_7 (
   R (.bool false) w_6) (
   LdA (At w_6) 27 a_2_1 fun t12_8 =>
   CallF Try.prog 12 #[t12_8] w_6 fun t13_9 w_10 =>
   Ext t13_9 0 fun t14_11 =>
   Ext t13_9 1 fun t15_12 =>
   LdA (At w_10) 27 b_3_3 fun t17_13 =>
   CallF Try.prog 12 #[t17_13] w_10 fun t18_14 w_15 =>
   Ext t18_14 0 fun t19_16 =>
   Ext t18_14 1 fun t20_17 =>
   ∃ S_18 : World → Prop, S_18 (World.drew w_15) ∧
   Bin Try.prog S_18 .neq 38 false true t15_12 (.int .i64 0) fun t22_19 =>
   GdP (isB t22_19 false) (fun R => R t20_17) fun t24_20 =>
   GdP (isB t22_19 false) (fun R => Bin Try.prog S_18 .neq 38 false true t24_20 (.int .i64 0) R) fun t25_21 =>
   Pick t22_19 (.bool true) t25_21 fun t26_22 =>
   GdP (isB t26_22 false) (fun R => R t14_11) fun t28_23 =>
   GdP (isB t26_22 false) (fun R => R t19_16) fun t29_24 =>
   GdP (isB t26_22 false) (fun R => LdA S_18 27 a_2_1 R) fun t31_25 =>
   GdP (isB t26_22 false) (fun R => LdA S_18 27 b_3_3 R) fun t32_26 =>
   Gd (isB t26_22 false) (fun R => CallF Try.prog 14 #[t28_23, t29_24] (World.drew w_15) R) (World.drew w_15) fun t30_27 w_28 =>
   S_18 w_28 ∧
   Gd (isB t26_22 false) (fun R => CallF Try.prog 15 #[t31_25, t32_26] w_28 R) w_28 fun t33_29 w_30 =>
   S_18 w_30 ∧
   GdP (isB t26_22 false) (fun R => Bin Try.prog S_18 .eql 4 false false t30_27 t33_29 R) fun t34_31 =>
   Pick t26_22 (.bool true) t34_31 fun t35_32 =>
   R t35_32 w_30)
theorem C_furlonglaw10_CommandApart_ent : Ent Try.prog 5 := ⟨_, Try.func5, by decide, rfl⟩
theorem C_furlonglaw10_CommandApart_link {x0 x1 : Value} {w : World} {R : Value → World → Prop} (h : C_furlonglaw10_CommandApart x0 x1 w R) : CallF Try.prog 5 #[x0, x1] w R :=
  callF_vFun (L := [0, 1, 2, 3, 4, 5, 6, 7, 8, 10]) (args := [x0, x1]) C_furlonglaw10_CommandApart_ent Try.func5 rfl (Eq.mp (show (C_furlonglaw10_CommandApart x0 x1 w R) = vFun Try.prog Try.f5 [0, 1, 2, 3, 4, 5, 6, 7, 8, 10] [x0, x1] w R by kernel_rfl) h)

/-- furlong/furlonglaw10.CommandReads: function 6 -/
def C_furlonglaw10_CommandReads (x0 : Value) (w : World) (R : Value → World → Prop) : Prop :=
  CallF Try.prog 10 #[] w fun t13_1 w_2 =>
  Un Try.prog (At w_2) .not t13_1 fun t14_3 =>
  If t14_3 (
   R (.bool false) w_2) (
   CallF Try.prog 16 #[x0] w_2 fun t17_4 w_5 =>
   Ext t17_4 0 fun t18_6 =>
   Ext t17_4 1 fun t19_7 =>
   Ext t17_4 2 fun t20_8 =>
   Do Try.prog (Instr.alloc 34 true (.tuple #[])) w_5 fun e_3_9 w_10 =>
   DoU Try.prog (Instr.storeAt 34 e_3_9 t18_6) w_10 fun u_11 w_12 =>
   CallF Try.prog 17 #[x0] w_12 fun t23_13 w_14 =>
   Ext t23_13 0 fun t24_15 =>
   Ext t23_13 1 fun t25_16 =>
   Ext t23_13 2 fun t26_17 =>
   Do Try.prog (Instr.alloc 34 true (.tuple #[])) w_14 fun d_6_18 w_19 =>
   DoU Try.prog (Instr.storeAt 34 d_6_18 t24_15) w_19 fun u_20 w_21 =>
   LdA (At w_21) 27 e_3_9 fun t27_22 =>
   LdA (At w_21) 27 d_6_18 fun t28_23 =>
   CallF Try.prog 15 #[t27_22, t28_23] w_21 fun t29_24 w_25 =>
   Un Try.prog (At w_25) .not t29_24 fun t30_26 =>
   GdP (isB t30_26 false) (fun R => R t19_7) fun t32_27 =>
   GdP (isB t30_26 false) (fun R => R t25_16) fun t33_28 =>
   GdP (isB t30_26 false) (fun R => Bin Try.prog (At w_25) .neq 3 false false t32_27 t33_28 R) fun t34_29 =>
   Pick t30_26 (.bool true) t34_29 fun t35_30 =>
   GdP (isB t35_30 false) (fun R => R t20_8) fun t37_31 =>
   GdP (isB t35_30 false) (fun R => R t26_17) fun t38_32 =>
   GdP (isB t35_30 false) (fun R => Bin Try.prog (At w_25) .neq 38 false false t37_31 t38_32 R) fun t39_33 =>
   Pick t35_30 (.bool true) t39_33 fun t40_34 =>
   If t40_34 (
    R (.bool false) w_25) (
    CallF Try.prog 18 #[x0] w_25 fun t43_35 w_36 =>
    Ext t43_35 0 fun t44_37 =>
    Ext t43_35 1 fun t45_38 =>
    Ext t43_35 2 fun t46_39 =>
    Do Try.prog (Instr.alloc 49 true (.tuple #[])) w_36 fun a_9_40 w_41 =>
    DoU Try.prog (Instr.storeAt 49 a_9_40 t44_37) w_41 fun u_42 w_43 =>
    CallF Try.prog 19 #[x0] w_43 fun t49_44 w_45 =>
    Ext t49_44 0 fun t50_46 =>
    Ext t49_44 1 fun t51_47 =>
    Ext t49_44 2 fun t52_48 =>
    Do Try.prog (Instr.alloc 49 true (.tuple #[])) w_45 fun c_10_49 w_50 =>
    DoU Try.prog (Instr.storeAt 49 c_10_49 t50_46) w_50 fun u_51 w_52 =>
    LdA (At w_52) 5 a_9_40 fun t53_53 =>
    LdA (At w_52) 5 c_10_49 fun t54_54 =>
    CallF Try.prog 20 #[t53_53, t54_54] w_52 fun t55_55 w_56 =>
    Un Try.prog (At w_56) .not t55_55 fun t56_57 =>
    GdP (isB t56_57 false) (fun R => R t45_38) fun t58_58 =>
    GdP (isB t56_57 false) (fun R => R t51_47) fun t59_59 =>
    GdP (isB t56_57 false) (fun R => Bin Try.prog (At w_56) .neq 3 false false t58_58 t59_59 R) fun t60_60 =>
    Pick t56_57 (.bool true) t60_60 fun t61_61 =>
    GdP (isB t61_61 false) (fun R => R t46_39) fun t63_62 =>
    GdP (isB t61_61 false) (fun R => R t52_48) fun t64_63 =>
    GdP (isB t61_61 false) (fun R => Bin Try.prog (At w_56) .neq 38 false false t63_62 t64_63 R) fun t65_64 =>
    Pick t61_61 (.bool true) t65_64 fun t66_65 =>
    If t66_65 (
     R (.bool false) w_56) (
     CallF Try.prog 21 #[x0] w_56 fun t69_66 w_67 =>
     Ext t69_66 0 fun t70_68 =>
     Ext t69_66 1 fun t71_69 =>
     Ext t69_66 2 fun t72_70 =>
     Do Try.prog (Instr.alloc 58 true (.tuple #[])) w_67 fun s_11_71 w_72 =>
     DoU Try.prog (Instr.storeAt 58 s_11_71 t70_68) w_72 fun u_73 w_74 =>
     CallF Try.prog 22 #[x0] w_74 fun t75_75 w_76 =>
     Ext t75_75 0 fun t76_77 =>
     Ext t75_75 1 fun t77_78 =>
     Ext t75_75 2 fun t78_79 =>
     Do Try.prog (Instr.alloc 58 true (.tuple #[])) w_76 fun t_12_80 w_81 =>
     DoU Try.prog (Instr.storeAt 58 t_12_80 t76_77) w_81 fun u_82 w_83 =>
     LdA (At w_83) 8 s_11_71 fun t79_84 =>
     LdA (At w_83) 8 t_12_80 fun t80_85 =>
     CallF Try.prog 23 #[t79_84, t80_85] w_83 fun t81_86 w_87 =>
     GdP (isB t81_86 true) (fun R => R t71_69) fun t83_88 =>
     GdP (isB t81_86 true) (fun R => R t77_78) fun t84_89 =>
     GdP (isB t81_86 true) (fun R => Bin Try.prog (At w_87) .eql 3 false false t83_88 t84_89 R) fun t85_90 =>
     Pick t81_86 t85_90 (.bool false) fun t86_91 =>
     GdP (isB t86_91 true) (fun R => R t72_70) fun t88_92 =>
     GdP (isB t86_91 true) (fun R => R t78_79) fun t89_93 =>
     GdP (isB t86_91 true) (fun R => Bin Try.prog (At w_87) .eql 38 false false t88_92 t89_93 R) fun t90_94 =>
     Pick t86_91 t90_94 (.bool false) fun t91_95 =>
     R t91_95 w_87)))
theorem C_furlonglaw10_CommandReads_ent : Ent Try.prog 6 := ⟨_, Try.func6, by decide, rfl⟩
theorem C_furlonglaw10_CommandReads_link {x0 : Value} {w : World} {R : Value → World → Prop} (h : C_furlonglaw10_CommandReads x0 w R) : CallF Try.prog 6 #[x0] w R :=
  callF_vFun (L := [0, 2, 3, 4, 5, 6, 7, 8, 9, 10, 11, 12, 14, 40, 66]) (args := [x0]) C_furlonglaw10_CommandReads_ent Try.func6 rfl (Eq.mp (show (C_furlonglaw10_CommandReads x0 w R) = vFun Try.prog Try.f6 [0, 2, 3, 4, 5, 6, 7, 8, 9, 10, 11, 12, 14, 40, 66] [x0] w R by kernel_rfl) h)

/-- furlong/furlonglaw10.CommandAnswers: function 7 -/
def C_furlonglaw10_CommandAnswers (x0 : Value) (w : World) (R : Value → World → Prop) : Prop :=
  Do Try.prog (Instr.box 49 x0) w fun a_1_1 w_2 =>
  CallF Try.prog 10 #[] w_2 fun t7_3 w_4 =>
  Un Try.prog (At w_4) .not t7_3 fun t8_5 =>
  If t8_5 (
   R (.bool false) w_4) (
   LdA (At w_4) 5 a_1_1 fun t10_6 =>
   CallF Try.prog 24 #[t10_6] w_4 fun t11_7 w_8 =>
   Ext t11_7 0 fun t12_9 =>
   Ext t11_7 1 fun t13_10 =>
   LdA (At w_8) 5 a_1_1 fun t15_11 =>
   CallF Try.prog 25 #[t15_11] w_8 fun t16_12 w_13 =>
   Ext t16_12 0 fun t17_14 =>
   Ext t16_12 1 fun t18_15 =>
   CallF Try.prog 14 #[t12_9, t17_14] w_13 fun t21_16 w_17 =>
   GdP (isB t21_16 true) (fun R => R t13_10) fun t23_18 =>
   GdP (isB t21_16 true) (fun R => R t18_15) fun t24_19 =>
   GdP (isB t21_16 true) (fun R => Bin Try.prog (At w_17) .eql 38 false false t23_18 t24_19 R) fun t25_20 =>
   Pick t21_16 t25_20 (.bool false) fun t26_21 =>
   R t26_21 w_17)
theorem C_furlonglaw10_CommandAnswers_ent : Ent Try.prog 7 := ⟨_, Try.func7, by decide, rfl⟩
theorem C_furlonglaw10_CommandAnswers_link {x0 : Value} {w : World} {R : Value → World → Prop} (h : C_furlonglaw10_CommandAnswers x0 w R) : CallF Try.prog 7 #[x0] w R :=
  callF_vFun (L := [0, 1, 2, 3, 4, 5, 6, 8]) (args := [x0]) C_furlonglaw10_CommandAnswers_ent Try.func7 rfl (Eq.mp (show (C_furlonglaw10_CommandAnswers x0 w R) = vFun Try.prog Try.f7 [0, 1, 2, 3, 4, 5, 6, 8] [x0] w R by kernel_rfl) h)

/-- furlong/furlonglaw10.CommandStates: function 8 -/
def C_furlonglaw10_CommandStates (x0 : Value) (w : World) (R : Value → World → Prop) : Prop :=
  Do Try.prog (Instr.box 58 x0) w fun s_1_1 w_2 =>
  CallF Try.prog 10 #[] w_2 fun t8_3 w_4 =>
  Un Try.prog (At w_4) .not t8_3 fun t9_5 =>
  If t9_5 (
   R (.bool false) w_4) (
   LdA (At w_4) 8 s_1_1 fun t10_6 =>
   CallF Try.prog 26 #[t10_6] w_4 fun t11_7 w_8 =>
   Do Try.prog (Instr.alloc 58 true (.tuple #[])) w_8 fun in_3_9 w_10 =>
   DoU Try.prog (Instr.storeAt 58 in_3_9 t11_7) w_10 fun u_11 w_12 =>
   LdA (At w_12) 8 in_3_9 fun t13_13 =>
   CallF Try.prog 27 #[t13_13] w_12 fun t14_14 w_15 =>
   Ext t14_14 0 fun t15_16 =>
   Ext t14_14 1 fun t16_17 =>
   LdA (At w_15) 8 s_1_1 fun t18_18 =>
   CallF Try.prog 28 #[t18_18] w_15 fun t19_19 w_20 =>
   Ext t19_19 0 fun t20_21 =>
   Ext t19_19 1 fun t21_22 =>
   CallF Try.prog 14 #[t15_16, t20_21] w_20 fun t24_23 w_24 =>
   GdP (isB t24_23 true) (fun R => R t16_17) fun t26_25 =>
   GdP (isB t24_23 true) (fun R => R t21_22) fun t27_26 =>
   GdP (isB t24_23 true) (fun R => Bin Try.prog (At w_24) .eql 38 false false t26_25 t27_26 R) fun t28_27 =>
   Pick t24_23 t28_27 (.bool false) fun t29_28 =>
   GdP (isB t29_28 true) (fun R => LdA (At w_24) 8 in_3_9 R) fun t31_29 =>
   GdP (isB t29_28 true) (fun R => LdA (At w_24) 8 s_1_1 R) fun t32_30 =>
   Gd (isB t29_28 true) (fun R => CallF Try.prog 23 #[t31_29, t32_30] w_24 R) w_24 fun t33_31 w_32 =>
   Pick t29_28 t33_31 (.bool false) fun t34_33 =>
   R t34_33 w_32)
theorem C_furlonglaw10_CommandStates_ent : Ent Try.prog 8 := ⟨_, Try.func8, by decide, rfl⟩
theorem C_furlonglaw10_CommandStates_link {x0 : Value} {w : World} {R : Value → World → Prop} (h : C_furlonglaw10_CommandStates x0 w R) : CallF Try.prog 8 #[x0] w R :=
  callF_vFun (L := [0, 1, 2, 3, 4, 5, 6, 7, 9]) (args := [x0]) C_furlonglaw10_CommandStates_ent Try.func8 rfl (Eq.mp (show (C_furlonglaw10_CommandStates x0 w R) = vFun Try.prog Try.f8 [0, 1, 2, 3, 4, 5, 6, 7, 9] [x0] w R by kernel_rfl) h)

/-- furlong/furlonglaw10.CommandBack: function 9 -/
def C_furlonglaw10_CommandBack (x0 : Value) (x1 : Value) (x2 : Value) (x3 : Value) (w : World) (R : Value → World → Prop) : Prop :=
  Do Try.prog (Instr.box 34 x0) w fun e_4_1 w_2 =>
  Do Try.prog (Instr.box 49 x1) w_2 fun a_5_3 w_4 =>
  Do Try.prog (Instr.box 58 x2) w_4 fun s_6_5 w_6 =>
  CallF Try.prog 10 #[] w_6 fun t24_7 w_8 =>
  Un Try.prog (At w_8) .not t24_7 fun t25_9 =>
  If t25_9 (
   R (.bool false) w_8) (
   LdA (At w_8) 27 e_4_1 fun t27_10 =>
   CallF Try.prog 12 #[t27_10] w_8 fun t28_11 w_12 =>
   Ext t28_11 0 fun t29_13 =>
   Ext t28_11 1 fun t30_14 =>
   Bin Try.prog (At w_12) .eql 38 false true t30_14 (.int .i64 0) fun t32_15 =>
   ∃ J_16 : Value → World → Prop,
   (∀ t8_17, ∀ w_18, J_16 t8_17 w_18 → (
    LdA (At w_18) 5 a_5_3 fun t52_19 =>
    CallF Try.prog 24 #[t52_19] w_18 fun t53_20 w_21 =>
    Ext t53_20 0 fun t54_22 =>
    Ext t53_20 1 fun t55_23 =>
    Bin Try.prog (At w_21) .eql 38 false true t55_23 (.int .i64 0) fun t57_24 =>
    ∃ J_25 : Value → World → Prop,
    (∀ t8_26, ∀ w_27, J_25 t8_26 w_27 → (
     LdA (At w_27) 8 s_6_5 fun t77_28 =>
     CallF Try.prog 27 #[t77_28] w_27 fun t78_29 w_30 =>
     Ext t78_29 0 fun t79_31 =>
     Ext t78_29 1 fun t80_32 =>
     Bin Try.prog (At w_30) .eql 38 false true t80_32 (.int .i64 0) fun t82_33 =>
     ∃ J_34 : Value → World → Prop,
     (∀ t8_35, ∀ w_36, J_34 t8_35 w_36 → (
      CallF Try.prog 29 #[x3] w_36 fun t102_37 w_38 =>
      R t102_37 w_38)) ∧
     If t82_33 (
      CallF Try.prog 21 #[t79_31] w_30 fun t85_39 w_40 =>
      Ext t85_39 0 fun t86_41 =>
      Ext t85_39 1 fun t87_42 =>
      Ext t85_39 2 fun t88_43 =>
      Do Try.prog (Instr.alloc 58 true (.tuple #[])) w_40 fun y_21_44 w_45 =>
      DoU Try.prog (Instr.storeAt 58 y_21_44 t86_41) w_45 fun u_46 w_47 =>
      Bin Try.prog (At w_47) .neq 38 false true t88_43 (.int .i64 0) fun t90_48 =>
      GdP (isB t90_48 false) (fun R => R t87_42) fun t92_49 =>
      GdP (isB t90_48 false) (fun R => Bin Try.prog (At w_47) .neq 3 false true t92_49 (.int .i64 0) R) fun t93_50 =>
      Pick t90_48 (.bool true) t93_50 fun t94_51 =>
      GdP (isB t94_51 false) (fun R => LdA (At w_47) 8 y_21_44 R) fun t96_52 =>
      GdP (isB t94_51 false) (fun R => LdA (At w_47) 8 s_6_5 R) fun t97_53 =>
      Gd (isB t94_51 false) (fun R => CallF Try.prog 23 #[t96_52, t97_53] w_47 R) w_47 fun t98_54 w_55 =>
      GdP (isB t94_51 false) (fun R => Un Try.prog (At w_55) .not t98_54 R) fun t99_56 =>
      Pick t94_51 (.bool true) t99_56 fun t100_57 =>
      If t100_57 (
       R (.bool false) w_55) (
       J_34 t8_26 w_55)) (
      J_34 t8_26 w_30))) ∧
    If t57_24 (
     CallF Try.prog 18 #[t54_22] w_21 fun t60_58 w_59 =>
     Ext t60_58 0 fun t61_60 =>
     Ext t60_58 1 fun t62_61 =>
     Ext t60_58 2 fun t63_62 =>
     Do Try.prog (Instr.alloc 49 true (.tuple #[])) w_59 fun y_16_63 w_64 =>
     DoU Try.prog (Instr.storeAt 49 y_16_63 t61_60) w_64 fun u_65 w_66 =>
     Bin Try.prog (At w_66) .neq 38 false true t63_62 (.int .i64 0) fun t65_67 =>
     GdP (isB t65_67 false) (fun R => R t62_61) fun t67_68 =>
     GdP (isB t65_67 false) (fun R => Bin Try.prog (At w_66) .neq 3 false true t67_68 (.int .i64 0) R) fun t68_69 =>
     Pick t65_67 (.bool true) t68_69 fun t69_70 =>
     GdP (isB t69_70 false) (fun R => LdA (At w_66) 5 y_16_63 R) fun t71_71 =>
     GdP (isB t69_70 false) (fun R => LdA (At w_66) 5 a_5_3 R) fun t72_72 =>
     Gd (isB t69_70 false) (fun R => CallF Try.prog 20 #[t71_71, t72_72] w_66 R) w_66 fun t73_73 w_74 =>
     GdP (isB t69_70 false) (fun R => Un Try.prog (At w_74) .not t73_73 R) fun t74_75 =>
     Pick t69_70 (.bool true) t74_75 fun t75_76 =>
     If t75_76 (
      R (.bool false) w_74) (
      J_25 t8_17 w_74)) (
     J_25 t8_17 w_21))) ∧
   If t32_15 (
    CallF Try.prog 16 #[t29_13] w_12 fun t35_77 w_78 =>
    Ext t35_77 0 fun t36_79 =>
    Ext t35_77 1 fun t37_80 =>
    Ext t35_77 2 fun t38_81 =>
    Do Try.prog (Instr.alloc 34 true (.tuple #[])) w_78 fun y_11_82 w_83 =>
    DoU Try.prog (Instr.storeAt 34 y_11_82 t36_79) w_83 fun u_84 w_85 =>
    Bin Try.prog (At w_85) .neq 38 false true t38_81 (.int .i64 0) fun t40_86 =>
    GdP (isB t40_86 false) (fun R => R t37_80) fun t42_87 =>
    GdP (isB t40_86 false) (fun R => Bin Try.prog (At w_85) .neq 3 false true t42_87 (.int .i64 0) R) fun t43_88 =>
    Pick t40_86 (.bool true) t43_88 fun t44_89 =>
    GdP (isB t44_89 false) (fun R => LdA (At w_85) 27 y_11_82 R) fun t46_90 =>
    GdP (isB t44_89 false) (fun R => LdA (At w_85) 27 e_4_1 R) fun t47_91 =>
    Gd (isB t44_89 false) (fun R => CallF Try.prog 15 #[t46_90, t47_91] w_85 R) w_85 fun t48_92 w_93 =>
    GdP (isB t44_89 false) (fun R => Un Try.prog (At w_93) .not t48_92 R) fun t49_94 =>
    Pick t44_89 (.bool true) t49_94 fun t50_95 =>
    If t50_95 (
     R (.bool false) w_93) (
     J_16 (.bool false) w_93)) (
    J_16 (.bool false) w_12))
theorem C_furlonglaw10_CommandBack_ent : Ent Try.prog 9 := ⟨_, Try.func9, by decide, rfl⟩
theorem C_furlonglaw10_CommandBack_link {x0 x1 x2 x3 : Value} {w : World} {R : Value → World → Prop} (h : C_furlonglaw10_CommandBack x0 x1 x2 x3 w R) : CallF Try.prog 9 #[x0, x1, x2, x3] w R :=
  callF_vFun (L := [0, 1, 2, 3, 4, 5, 6, 8, 9, 10, 11, 12, 13, 14, 15, 16, 17, 18, 19, 20, 21, 22, 23, 25, 32, 50, 57, 75, 82, 100]) (args := [x0, x1, x2, x3]) C_furlonglaw10_CommandBack_ent Try.func9 rfl (Eq.mp (show (C_furlonglaw10_CommandBack x0 x1 x2 x3 w R) = vFun Try.prog Try.f9 [0, 1, 2, 3, 4, 5, 6, 8, 9, 10, 11, 12, 13, 14, 15, 16, 17, 18, 19, 20, 21, 22, 23, 25, 32, 50, 57, 75, 82, 100] [x0, x1, x2, x3] w R by kernel_rfl) h)

/-- furlong/furlonglaw10.awake: function 10 -/
def C_furlonglaw10_awake (w : World) (R : Value → World → Prop) : Prop :=
  Bld Try.prog 32 [(0, (.int .i64 2)), (1, (.int .i64 7))] fun t7_1 =>
  Bld Try.prog 34 [(0, (.int .i64 1)), (1, (.int .i64 2)), (2, (.int .i64 3)), (3, t7_1)] fun t8_2 =>
  CallF Try.prog 12 #[t8_2] w fun t9_3 w_4 =>
  Ext t9_3 0 fun t10_5 =>
  Ext t9_3 1 fun t11_6 =>
  CallF Try.prog 16 #[t10_5] w_4 fun t14_7 w_8 =>
  Ext t14_7 0 fun t15_9 =>
  Ext t14_7 1 fun t16_10 =>
  Ext t14_7 2 fun t17_11 =>
  Do Try.prog (Instr.alloc 34 true (.tuple #[])) w_8 fun x_3_12 w_13 =>
  DoU Try.prog (Instr.storeAt 34 x_3_12 t15_9) w_13 fun u_14 w_15 =>
  Bin Try.prog (At w_15) .eql 38 false true t11_6 (.int .i64 0) fun t19_16 =>
  GdP (isB t19_16 true) (fun R => R t17_11) fun t21_17 =>
  GdP (isB t19_16 true) (fun R => Bin Try.prog (At w_15) .eql 38 false true t21_17 (.int .i64 0) R) fun t22_18 =>
  Pick t19_16 t22_18 (.bool false) fun t23_19 =>
  GdP (isB t23_19 true) (fun R => R t10_5) fun t25_20 =>
  GdP (isB t23_19 true) (fun R => Len t25_20 R) fun t26_21 =>
  GdP (isB t23_19 true) (fun R => Bin Try.prog (At w_15) .gtr 3 false true t26_21 (.int .i64 20) R) fun t27_22 =>
  Pick t23_19 t27_22 (.bool false) fun t28_23 =>
  GdP (isB t28_23 true) (fun R => R t10_5) fun t30_24 =>
  GdP (isB t28_23 true) (fun R => IAdS 1 t30_24 (.int .i64 0) R) fun t31_25 =>
  GdP (isB t28_23 true) (fun R => LdC (At w_15) t31_25 R) fun t32_26 =>
  GdP (isB t28_23 true) (fun R => Bin Try.prog (At w_15) .eql 5 false true t32_26 (.int .u8 2) R) fun t33_27 =>
  Pick t28_23 t33_27 (.bool false) fun t34_28 =>
  GdP (isB t34_28 true) (fun R => R t10_5) fun t36_29 =>
  GdP (isB t34_28 true) (fun R => IAdS 1 t36_29 (.int .i64 1) R) fun t37_30 =>
  GdP (isB t34_28 true) (fun R => LdC (At w_15) t37_30 R) fun t38_31 =>
  GdP (isB t34_28 true) (fun R => Bin Try.prog (At w_15) .eql 5 false true t38_31 (.int .u8 4) R) fun t39_32 =>
  Pick t34_28 t39_32 (.bool false) fun t40_33 =>
  GdP (isB t40_33 true) (fun R => R t10_5) fun t42_34 =>
  GdP (isB t40_33 true) (fun R => IAdS 1 t42_34 (.int .i64 2) R) fun t43_35 =>
  GdP (isB t40_33 true) (fun R => LdC (At w_15) t43_35 R) fun t44_36 =>
  GdP (isB t40_33 true) (fun R => Bin Try.prog (At w_15) .eql 5 false true t44_36 (.int .u8 6) R) fun t45_37 =>
  Pick t40_33 t45_37 (.bool false) fun t46_38 =>
  GdP (isB t46_38 true) (fun R => R t10_5) fun t48_39 =>
  GdP (isB t46_38 true) (fun R => IAdS 1 t48_39 (.int .i64 3) R) fun t49_40 =>
  GdP (isB t46_38 true) (fun R => LdC (At w_15) t49_40 R) fun t50_41 =>
  GdP (isB t46_38 true) (fun R => Bin Try.prog (At w_15) .eql 5 false true t50_41 (.int .u8 2) R) fun t51_42 =>
  Pick t46_38 t51_42 (.bool false) fun t52_43 =>
  GdP (isB t52_43 true) (fun R => R t10_5) fun t54_44 =>
  GdP (isB t52_43 true) (fun R => IAdS 1 t54_44 (.int .i64 4) R) fun t55_45 =>
  GdP (isB t52_43 true) (fun R => LdC (At w_15) t55_45 R) fun t56_46 =>
  GdP (isB t52_43 true) (fun R => Bin Try.prog (At w_15) .eql 5 false true t56_46 (.int .u8 14) R) fun t57_47 =>
  Pick t52_43 t57_47 (.bool false) fun t58_48 =>
  GdP (isB t58_48 true) (fun R => FAd 3 x_3_12 R) fun t60_49 =>
  GdP (isB t58_48 true) (fun R => FAd 1 t60_49 R) fun t61_50 =>
  GdP (isB t58_48 true) (fun R => LdC (At w_15) t61_50 R) fun t62_51 =>
  GdP (isB t58_48 true) (fun R => Bin Try.prog (At w_15) .eql 3 false true t62_51 (.int .i64 7) R) fun t63_52 =>
  Pick t58_48 t63_52 (.bool false) fun t64_53 =>
  R t64_53 w_15
theorem C_furlonglaw10_awake_ent : Ent Try.prog 10 := ⟨_, Try.func10, by decide, rfl⟩
theorem C_furlonglaw10_awake_link {w : World} {R : Value → World → Prop} (h : C_furlonglaw10_awake w R) : CallF Try.prog 10 #[] w R :=
  callF_vFun (L := [0, 1, 2, 3, 5]) (args := []) C_furlonglaw10_awake_ent Try.func10 rfl (Eq.mp (show (C_furlonglaw10_awake w R) = vFun Try.prog Try.f10 [0, 1, 2, 3, 5] [] w R by kernel_rfl) h)

/-- furlong/furlongref10.TwinEntry: function 11 -/
def C_furlongref10_TwinEntry (x0 : Value) (w : World) (R : Value → World → Prop) : Prop :=
  Do Try.prog (Instr.box 34 x0) w fun e_1_1 w_2 =>
  Do Try.prog (Instr.alloc 34 true (.tuple #[])) w_2 fun t2_3 w_4 =>
  FAd 3 e_1_1 fun t3_5 =>
  FAd 17 t3_5 fun t4_6 =>
  LdA (At w_4) 7 t4_6 fun t5_7 =>
  CallF Try.prog 30 #[t5_7] w_4 fun t6_8 w_9 =>
  FAd 3 e_1_1 fun t7_10 =>
  FAd 17 t7_10 fun t8_11 =>
  DoU Try.prog (Instr.storeAt 30 t8_11 t6_8) w_9 fun u_12 w_13 =>
  LdA (At w_13) 27 e_1_1 fun t9_14 =>
  DoU Try.prog (Instr.storeAt 34 t2_3 t9_14) w_13 fun u_15 w_16 =>
  LdA (At w_16) 27 t2_3 fun r_17 =>
  R r_17 w_16
theorem C_furlongref10_TwinEntry_ent : Ent Try.prog 11 := ⟨_, Try.func11, by decide, rfl⟩
theorem C_furlongref10_TwinEntry_link {x0 : Value} {w : World} {R : Value → World → Prop} (h : C_furlongref10_TwinEntry x0 w R) : CallF Try.prog 11 #[x0] w R :=
  callF_vFun (L := [0, 1, 2]) (args := [x0]) C_furlongref10_TwinEntry_ent Try.func11 rfl (Eq.mp (show (C_furlongref10_TwinEntry x0 w R) = vFun Try.prog Try.f11 [0, 1, 2] [x0] w R by kernel_rfl) h)

/-- furlong/command.EncodeEntry: function 12 -/
def C_command_EncodeEntry (x0 : Value) (w : World) (R : Value → World → Prop) : Prop :=
  Do Try.prog (Instr.box 34 x0) w fun e_1_1 w_2 =>
  FAd 3 e_1_1 fun t6_3 =>
  LdA (At w_2) 24 t6_3 fun t7_4 =>
  Do Try.prog (Instr.alloc 32 true (.tuple #[])) w_2 fun c_4_5 w_6 =>
  DoU Try.prog (Instr.storeAt 32 c_4_5 t7_4) w_6 fun u_7 w_8 =>
  Bld Try.prog 72 [] fun t8_9 =>
  Do Try.prog (Instr.box 72 t8_9) w_8 fun t9_10 w_11 =>
  FAd 0 e_1_1 fun t11_12 =>
  LdC (At w_11) t11_12 fun t12_13 =>
  FAd 1 e_1_1 fun t13_14 =>
  LdC (At w_11) t13_14 fun t14_15 =>
  FAd 2 e_1_1 fun t15_16 =>
  LdC (At w_11) t15_16 fun t16_17 =>
  Do Try.prog (Instr.buildSlice 81 3 #[(0, t12_13), (1, t14_15), (2, t16_17)]) w_11 fun t17_18 w_19 =>
  CallF Try.prog 31 #[t9_10, t17_18] w_19 fun t18_20 w_21 =>
  FAd 0 c_4_5 fun t20_22 =>
  LdC (At w_21) t20_22 fun t21_23 =>
  ConvI .u64 t21_23 fun t22_24 =>
  CallF Try.prog 32 #[t9_10, t22_24] w_21 fun t23_25 w_26 =>
  FAd 1 c_4_5 fun t25_27 =>
  LdC (At w_26) t25_27 fun t26_28 =>
  FAd 2 c_4_5 fun t27_29 =>
  LdC (At w_26) t27_29 fun t28_30 =>
  FAd 3 c_4_5 fun t29_31 =>
  LdC (At w_26) t29_31 fun t30_32 =>
  FAd 4 c_4_5 fun t31_33 =>
  LdC (At w_26) t31_33 fun t32_34 =>
  Do Try.prog (Instr.buildSlice 81 4 #[(0, t26_28), (1, t28_30), (2, t30_32), (3, t32_34)]) w_26 fun t33_35 w_36 =>
  CallF Try.prog 31 #[t9_10, t33_35] w_36 fun t34_37 w_38 =>
  FAd 5 c_4_5 fun t36_39 =>
  LdA (At w_38) 7 t36_39 fun t37_40 =>
  CallF Try.prog 33 #[t9_10, t37_40] w_38 fun t38_41 w_42 =>
  FAd 12 c_4_5 fun t40_43 =>
  LdA (At w_42) 5 t40_43 fun t41_44 =>
  CallF Try.prog 34 #[t9_10, t41_44] w_42 fun t42_45 w_46 =>
  FAd 17 c_4_5 fun t44_47 =>
  LdA (At w_46) 7 t44_47 fun t45_48 =>
  CallF Try.prog 35 #[t9_10, t45_48] w_46 fun t46_49 w_50 =>
  NilC t9_10 fun t48_51 =>
  FAd 1 t48_51 fun t49_52 =>
  LdC (At w_50) t49_52 fun t50_53 =>
  Bin Try.prog (At w_50) .eql 38 false true t50_53 (.int .i64 0) fun t51_54 =>
  GdP (isB t51_54 true) (fun R => FAd 0 c_4_5 R) fun t53_55 =>
  GdP (isB t51_54 true) (fun R => LdC (At w_50) t53_55 R) fun t54_56 =>
  GdP (isB t51_54 true) (fun R => Bin Try.prog (At w_50) .lss 3 false true t54_56 (.int .i64 0) R) fun t55_57 =>
  Pick t51_54 t55_57 (.bool false) fun t56_58 =>
  ∃ J_59 : World → Prop,
  (∀ w_60, J_59 w_60 → (
   CallF Try.prog 36 #[t9_10] w_60 fun t61_61 w_62 =>
   Ext t61_61 0 fun t62_63 =>
   Ext t61_61 1 fun t63_64 =>
   R (.tuple #[t62_63, t63_64]) w_62)) ∧
  If t56_58 (
   NilC t9_10 fun t58_65 =>
   FAd 1 t58_65 fun t59_66 =>
   DoU Try.prog (Instr.storeAt 38 t59_66 (.int .i64 1)) w_50 fun u_67 w_68 =>
   J_59 w_68) (
   J_59 w_50)
theorem C_command_EncodeEntry_ent : Ent Try.prog 12 := ⟨_, Try.func12, by decide, rfl⟩
theorem C_command_EncodeEntry_link {x0 : Value} {w : World} {R : Value → World → Prop} (h : C_command_EncodeEntry x0 w R) : CallF Try.prog 12 #[x0] w R :=
  callF_vFun (L := [0, 1, 2, 3, 4, 5, 56]) (args := [x0]) C_command_EncodeEntry_ent Try.func12 rfl (Eq.mp (show (C_command_EncodeEntry x0 w R) = vFun Try.prog Try.f12 [0, 1, 2, 3, 4, 5, 56] [x0] w R by kernel_rfl) h)

/-- furlong/furlongref10.Entry: function 13 -/
def C_furlongref10_Entry (x0 : Value) (w : World) (R : Value → World → Prop) : Prop :=
  Do Try.prog (Instr.box 34 x0) w fun e_1_1 w_2 =>
  FAd 3 e_1_1 fun t6_3 =>
  LdA (At w_2) 24 t6_3 fun t7_4 =>
  Do Try.prog (Instr.alloc 32 true (.tuple #[])) w_2 fun c_4_5 w_6 =>
  DoU Try.prog (Instr.storeAt 32 c_4_5 t7_4) w_6 fun u_7 w_8 =>
  FAd 17 c_4_5 fun t9_9 =>
  FAd 5 t9_9 fun t10_10 =>
  LdC (At w_8) t10_10 fun t11_11 =>
  Len t11_11 fun t12_12 =>
  Bin Try.prog (At w_8) .gtr 3 false true t12_12 (.int .i64 1024) fun t13_13 =>
  If t13_13 (
   R (.tuple #[(.slice none 0 0), (.int .i64 3)]) w_8) (
   FAd 0 c_4_5 fun t15_14 =>
   LdC (At w_8) t15_14 fun t16_15 =>
   Bin Try.prog (At w_8) .lss 3 false true t16_15 (.int .i64 0) fun t17_16 =>
   If t17_16 (
    R (.tuple #[(.slice none 0 0), (.int .i64 1)]) w_8) (
    FAd 0 e_1_1 fun t18_17 =>
    LdC (At w_8) t18_17 fun t19_18 =>
    FAd 1 e_1_1 fun t20_19 =>
    LdC (At w_8) t20_19 fun t21_20 =>
    FAd 2 e_1_1 fun t22_21 =>
    LdC (At w_8) t22_21 fun t23_22 =>
    Do Try.prog (Instr.buildSlice 81 3 #[(0, t19_18), (1, t21_20), (2, t23_22)]) w_8 fun t24_23 w_24 =>
    CallF Try.prog 37 #[(.slice none 0 0), t24_23] w_24 fun t25_25 w_26 =>
    FAd 0 c_4_5 fun t27_27 =>
    LdC (At w_26) t27_27 fun t28_28 =>
    ConvI .u64 t28_28 fun t29_29 =>
    CallF Try.prog 38 #[t29_29] w_26 fun t30_30 w_31 =>
    Do Try.prog (Builtin.append_ #[37, 37] 37 #[t25_25, t30_30]) w_31 fun t31_32 w_33 =>
    FAd 1 c_4_5 fun t33_34 =>
    LdC (At w_33) t33_34 fun t34_35 =>
    FAd 2 c_4_5 fun t35_36 =>
    LdC (At w_33) t35_36 fun t36_37 =>
    FAd 3 c_4_5 fun t37_38 =>
    LdC (At w_33) t37_38 fun t38_39 =>
    FAd 4 c_4_5 fun t39_40 =>
    LdC (At w_33) t39_40 fun t40_41 =>
    Do Try.prog (Instr.buildSlice 81 4 #[(0, t34_35), (1, t36_37), (2, t38_39), (3, t40_41)]) w_33 fun t41_42 w_43 =>
    CallF Try.prog 37 #[t31_32, t41_42] w_43 fun t42_44 w_45 =>
    ∃ S_46 : World → Prop, S_46 (World.drew w_45) ∧
    FAd 5 c_4_5 fun t44_47 =>
    LdA S_46 7 t44_47 fun t45_48 =>
    FAd 12 c_4_5 fun t48_49 =>
    LdA S_46 5 t48_49 fun t49_50 =>
    CallF Try.prog 39 #[t45_48] (World.drew w_45) fun t46_51 w_52 =>
    S_46 w_52 ∧
    CallF Try.prog 37 #[t42_44, t46_51] w_52 fun t47_53 w_54 =>
    S_46 w_54 ∧
    CallF Try.prog 40 #[t49_50] w_54 fun t50_55 w_56 =>
    S_46 w_56 ∧
    CallF Try.prog 37 #[t47_53, t50_55] w_56 fun t51_57 w_58 =>
    S_46 w_58 ∧
    FAd 17 c_4_5 fun t53_59 =>
    LdA (At w_58) 7 t53_59 fun t54_60 =>
    CallF Try.prog 41 #[t54_60] w_58 fun t55_61 w_62 =>
    Do Try.prog (Builtin.append_ #[37, 37] 37 #[t51_57, t55_61]) w_62 fun t56_63 w_64 =>
    R (.tuple #[t56_63, (.int .i64 0)]) w_64))
theorem C_furlongref10_Entry_ent : Ent Try.prog 13 := ⟨_, Try.func13, by decide, rfl⟩
theorem C_furlongref10_Entry_link {x0 : Value} {w : World} {R : Value → World → Prop} (h : C_furlongref10_Entry x0 w R) : CallF Try.prog 13 #[x0] w R :=
  callF_vFun (L := [0, 1, 2, 3, 4, 5, 8, 14]) (args := [x0]) C_furlongref10_Entry_ent Try.func13 rfl (Eq.mp (show (C_furlongref10_Entry x0 w R) = vFun Try.prog Try.f13 [0, 1, 2, 3, 4, 5, 8, 14] [x0] w R by kernel_rfl) h)

/-- furlong/furlongref01.Bytes: function 14 -/
def C_furlongref01_Bytes (x0 : Value) (x1 : Value) (w : World) (R : Value → World → Prop) : Prop :=
  Do Try.prog (convert 37 9 x0) w fun t6_1 w_2 =>
  Do Try.prog (convert 37 9 x1) w_2 fun t8_3 w_4 =>
  Bin Try.prog (At w_4) .eql 9 false false t6_1 t8_3 fun t9_5 =>
  R t9_5 w_4
theorem C_furlongref01_Bytes_ent : Ent Try.prog 14 := ⟨_, Try.func14, by decide, rfl⟩
theorem C_furlongref01_Bytes_link {x0 x1 : Value} {w : World} {R : Value → World → Prop} (h : C_furlongref01_Bytes x0 x1 w R) : CallF Try.prog 14 #[x0, x1] w R :=
  callF_vFun (L := [0, 1, 4]) (args := [x0, x1]) C_furlongref01_Bytes_ent Try.func14 rfl (Eq.mp (show (C_furlongref01_Bytes x0 x1 w R) = vFun Try.prog Try.f14 [0, 1, 4] [x0, x1] w R by kernel_rfl) h)

/-- furlong/furlongref10.SameEntry: function 15 -/
def C_furlongref10_SameEntry (x0 : Value) (x1 : Value) (w : World) (R : Value → World → Prop) : Prop :=
  Do Try.prog (Instr.box 34 x0) w fun a_2_1 w_2 =>
  Do Try.prog (Instr.box 34 x1) w_2 fun b_3_3 w_4 =>
  ∃ J_6 : Value → Value → World → Prop,
  (∀ x_5_7, ∀ y_6_8, ∀ w_9, J_6 x_5_7 y_6_8 w_9 → (
   FAd 0 a_2_1 fun t11_10 =>
   LdC (At w_9) t11_10 fun t12_11 =>
   FAd 0 b_3_3 fun t13_12 =>
   LdC (At w_9) t13_12 fun t14_13 =>
   Bin Try.prog (At w_9) .eql 2 false false t12_11 t14_13 fun t15_14 =>
   GdP (isB t15_14 true) (fun R => FAd 1 a_2_1 R) fun t17_15 =>
   GdP (isB t15_14 true) (fun R => LdC (At w_9) t17_15 R) fun t18_16 =>
   GdP (isB t15_14 true) (fun R => FAd 1 b_3_3 R) fun t19_17 =>
   GdP (isB t15_14 true) (fun R => LdC (At w_9) t19_17 R) fun t20_18 =>
   GdP (isB t15_14 true) (fun R => Bin Try.prog (At w_9) .eql 3 false false t18_16 t20_18 R) fun t21_19 =>
   Pick t15_14 t21_19 (.bool false) fun t22_20 =>
   GdP (isB t22_20 true) (fun R => FAd 2 a_2_1 R) fun t24_21 =>
   GdP (isB t22_20 true) (fun R => LdC (At w_9) t24_21 R) fun t25_22 =>
   GdP (isB t22_20 true) (fun R => FAd 2 b_3_3 R) fun t26_23 =>
   GdP (isB t22_20 true) (fun R => LdC (At w_9) t26_23 R) fun t27_24 =>
   GdP (isB t22_20 true) (fun R => Bin Try.prog (At w_9) .eql 3 false false t25_22 t27_24 R) fun t28_25 =>
   Pick t22_20 t28_25 (.bool false) fun t29_26 =>
   GdP (isB t29_26 true) (fun R => FAd 0 x_5_7 R) fun t31_27 =>
   GdP (isB t29_26 true) (fun R => LdC (At w_9) t31_27 R) fun t32_28 =>
   GdP (isB t29_26 true) (fun R => FAd 0 y_6_8 R) fun t33_29 =>
   GdP (isB t29_26 true) (fun R => LdC (At w_9) t33_29 R) fun t34_30 =>
   GdP (isB t29_26 true) (fun R => Bin Try.prog (At w_9) .eql 3 false false t32_28 t34_30 R) fun t35_31 =>
   Pick t29_26 t35_31 (.bool false) fun t36_32 =>
   GdP (isB t36_32 true) (fun R => FAd 1 x_5_7 R) fun t38_33 =>
   GdP (isB t36_32 true) (fun R => LdC (At w_9) t38_33 R) fun t39_34 =>
   GdP (isB t36_32 true) (fun R => FAd 1 y_6_8 R) fun t40_35 =>
   GdP (isB t36_32 true) (fun R => LdC (At w_9) t40_35 R) fun t41_36 =>
   GdP (isB t36_32 true) (fun R => Bin Try.prog (At w_9) .eql 3 false false t39_34 t41_36 R) fun t42_37 =>
   Pick t36_32 t42_37 (.bool false) fun t43_38 =>
   GdP (isB t43_38 true) (fun R => FAd 2 x_5_7 R) fun t45_39 =>
   GdP (isB t43_38 true) (fun R => LdC (At w_9) t45_39 R) fun t46_40 =>
   GdP (isB t43_38 true) (fun R => FAd 2 y_6_8 R) fun t47_41 =>
   GdP (isB t43_38 true) (fun R => LdC (At w_9) t47_41 R) fun t48_42 =>
   GdP (isB t43_38 true) (fun R => Bin Try.prog (At w_9) .eql 3 false false t46_40 t48_42 R) fun t49_43 =>
   Pick t43_38 t49_43 (.bool false) fun t50_44 =>
   GdP (isB t50_44 true) (fun R => FAd 3 x_5_7 R) fun t52_45 =>
   GdP (isB t50_44 true) (fun R => LdC (At w_9) t52_45 R) fun t53_46 =>
   GdP (isB t50_44 true) (fun R => FAd 3 y_6_8 R) fun t54_47 =>
   GdP (isB t50_44 true) (fun R => LdC (At w_9) t54_47 R) fun t55_48 =>
   GdP (isB t50_44 true) (fun R => Bin Try.prog (At w_9) .eql 3 false false t53_46 t55_48 R) fun t56_49 =>
   Pick t50_44 t56_49 (.bool false) fun t57_50 =>
   GdP (isB t57_50 true) (fun R => FAd 4 x_5_7 R) fun t59_51 =>
   GdP (isB t57_50 true) (fun R => LdC (At w_9) t59_51 R) fun t60_52 =>
   GdP (isB t57_50 true) (fun R => FAd 4 y_6_8 R) fun t61_53 =>
   GdP (isB t57_50 true) (fun R => LdC (At w_9) t61_53 R) fun t62_54 =>
   GdP (isB t57_50 true) (fun R => Bin Try.prog (At w_9) .eql 2 false false t60_52 t62_54 R) fun t63_55 =>
   Pick t57_50 t63_55 (.bool false) fun t64_56 =>
   GdP (isB t64_56 true) (fun R => FAd 5 x_5_7 R) fun t66_57 =>
   GdP (isB t64_56 true) (fun R => LdA (At w_9) 7 t66_57 R) fun t67_58 =>
   GdP (isB t64_56 true) (fun R => FAd 5 y_6_8 R) fun t68_59 =>
   GdP (isB t64_56 true) (fun R => LdA (At w_9) 7 t68_59 R) fun t69_60 =>
   GdP (isB t64_56 true) (fun R => Bin Try.prog (At w_9) .eql 25 false false t67_58 t69_60 R) fun t70_61 =>
   Pick t64_56 t70_61 (.bool false) fun t71_62 =>
   GdP (isB t71_62 true) (fun R => FAd 12 x_5_7 R) fun t73_63 =>
   GdP (isB t71_62 true) (fun R => LdA (At w_9) 5 t73_63 R) fun t74_64 =>
   GdP (isB t71_62 true) (fun R => FAd 12 y_6_8 R) fun t75_65 =>
   GdP (isB t71_62 true) (fun R => LdA (At w_9) 5 t75_65 R) fun t76_66 =>
   GdP (isB t71_62 true) (fun R => Bin Try.prog (At w_9) .eql 27 false false t74_64 t76_66 R) fun t77_67 =>
   Pick t71_62 t77_67 (.bool false) fun t78_68 =>
   GdP (isB t78_68 true) (fun R => FAd 17 x_5_7 R) fun t80_69 =>
   GdP (isB t78_68 true) (fun R => LdA (At w_9) 7 t80_69 R) fun t81_70 =>
   GdP (isB t78_68 true) (fun R => FAd 17 y_6_8 R) fun t82_71 =>
   GdP (isB t78_68 true) (fun R => LdA (At w_9) 7 t82_71 R) fun t83_72 =>
   Gd (isB t78_68 true) (fun R => CallF Try.prog 42 #[t81_70, t83_72] w_9 R) w_9 fun t84_73 w_74 =>
   Pick t78_68 t84_73 (.bool false) fun t85_75 =>
   R t85_75 w_74)) ∧
  ∃ S_5 : World → Prop, S_5 (World.drew w_4) ∧
  FAd 3 a_2_1 fun t7_76 =>
  LdA S_5 24 t7_76 fun t8_77 =>
  FAd 3 b_3_3 fun t9_78 =>
  LdA S_5 24 t9_78 fun t10_79 =>
  (
   Do Try.prog (Instr.alloc 32 true (.tuple #[])) (World.drew w_4) fun x_5_80 w_81 =>
   S_5 w_81 ∧
   Do Try.prog (Instr.alloc 32 true (.tuple #[])) w_81 fun y_6_82 w_83 =>
   S_5 w_83 ∧
   DoU Try.prog (Instr.storeAt 32 x_5_80 t8_77) w_83 fun u_84 w_85 =>
   S_5 w_85 ∧
   DoU Try.prog (Instr.storeAt 32 y_6_82 t10_79) w_85 fun u_86 w_87 =>
   J_6 x_5_80 y_6_82 w_87) ∧
  (
   Do Try.prog (Instr.alloc 32 true (.tuple #[])) (World.drew w_4) fun y_6_88 w_89 =>
   S_5 w_89 ∧
   Do Try.prog (Instr.alloc 32 true (.tuple #[])) w_89 fun x_5_90 w_91 =>
   S_5 w_91 ∧
   DoU Try.prog (Instr.storeAt 32 x_5_90 t8_77) w_91 fun u_92 w_93 =>
   S_5 w_93 ∧
   DoU Try.prog (Instr.storeAt 32 y_6_88 t10_79) w_93 fun u_94 w_95 =>
   J_6 x_5_90 y_6_88 w_95)
theorem C_furlongref10_SameEntry_ent : Ent Try.prog 15 := ⟨_, Try.func15, by decide, rfl⟩
theorem C_furlongref10_SameEntry_link {x0 x1 : Value} {w : World} {R : Value → World → Prop} (h : C_furlongref10_SameEntry x0 x1 w R) : CallF Try.prog 15 #[x0, x1] w R :=
  callF_vFun (L := [0, 1, 2, 3, 4, 5, 6]) (args := [x0, x1]) C_furlongref10_SameEntry_ent Try.func15 rfl (Eq.mp (show (C_furlongref10_SameEntry x0 x1 w R) = vFun Try.prog Try.f15 [0, 1, 2, 3, 4, 5, 6] [x0, x1] w R by kernel_rfl) h)

/-- furlong/command.DecodeEntry: function 16 -/
def C_command_DecodeEntry (x0 : Value) (w : World) (R : Value → World → Prop) : Prop :=
  Do Try.prog (Instr.alloc 34 true (.tuple #[])) w fun t2_1 w_2 =>
  CallF Try.prog 43 #[x0, (.func (.func 44) #[] #[])] w_2 fun t6_3 w_4 =>
  Ext t6_3 0 fun t7_5 =>
  Ext t6_3 1 fun t8_6 =>
  Ext t6_3 2 fun t9_7 =>
  DoU Try.prog (Instr.storeAt 34 t2_1 t7_5) w_4 fun u_8 w_9 =>
  LdA (At w_9) 27 t2_1 fun r_10 =>
  R (.tuple #[r_10, t8_6, t9_7]) w_9
theorem C_command_DecodeEntry_ent : Ent Try.prog 16 := ⟨_, Try.func16, by decide, rfl⟩
theorem C_command_DecodeEntry_link {x0 : Value} {w : World} {R : Value → World → Prop} (h : C_command_DecodeEntry x0 w R) : CallF Try.prog 16 #[x0] w R :=
  callF_vFun (L := [0, 2, 3, 4]) (args := [x0]) C_command_DecodeEntry_ent Try.func16 rfl (Eq.mp (show (C_command_DecodeEntry x0 w R) = vFun Try.prog Try.f16 [0, 2, 3, 4] [x0] w R by kernel_rfl) h)

/-- furlong/furlongref10.DocEntry: function 17 -/
def C_furlongref10_DocEntry (x0 : Value) (w : World) (R : Value → World → Prop) : Prop :=
  Do Try.prog (Instr.alloc 34 true (.tuple #[])) w fun t2_1 w_2 =>
  Bld Try.prog 92 [(0, x0)] fun t16_3 =>
  CallF Try.prog 45 #[t16_3, (.int .i64 3)] w_2 fun t17_4 w_5 =>
  Ext t17_4 0 fun t18_6 =>
  Ext t17_4 1 fun t19_7 =>
  Do Try.prog (Instr.alloc 92 true (.tuple #[])) w_5 fun r_5_8 w_9 =>
  DoU Try.prog (Instr.storeAt 92 r_5_8 t18_6) w_9 fun u_10 w_11 =>
  LdA (At w_11) 3 r_5_8 fun t21_12 =>
  CallF Try.prog 46 #[t21_12, (.int .u64 9223372036854775807)] w_11 fun t22_13 w_14 =>
  Ext t22_13 0 fun t23_15 =>
  Ext t22_13 1 fun t24_16 =>
  DoU Try.prog (Instr.storeAt 92 r_5_8 t23_15) w_14 fun u_17 w_18 =>
  LdA (At w_18) 3 r_5_8 fun t26_19 =>
  CallF Try.prog 45 #[t26_19, (.int .i64 4)] w_18 fun t27_20 w_21 =>
  Ext t27_20 0 fun t28_22 =>
  Ext t27_20 1 fun t29_23 =>
  DoU Try.prog (Instr.storeAt 92 r_5_8 t28_22) w_21 fun u_24 w_25 =>
  LdA (At w_25) 3 r_5_8 fun t31_26 =>
  CallF Try.prog 47 #[t31_26] w_25 fun t32_27 w_28 =>
  Ext t32_27 0 fun t33_29 =>
  Ext t32_27 1 fun t34_30 =>
  Do Try.prog (Instr.alloc 25 true (.tuple #[])) w_28 fun q_9_31 w_32 =>
  DoU Try.prog (Instr.storeAt 92 r_5_8 t33_29) w_32 fun u_33 w_34 =>
  DoU Try.prog (Instr.storeAt 25 q_9_31 t34_30) w_34 fun u_35 w_36 =>
  LdA (At w_36) 3 r_5_8 fun t36_37 =>
  CallF Try.prog 48 #[t36_37] w_36 fun t37_38 w_39 =>
  Ext t37_38 0 fun t38_40 =>
  Ext t37_38 1 fun t39_41 =>
  Do Try.prog (Instr.alloc 27 true (.tuple #[])) w_39 fun n_10_42 w_43 =>
  DoU Try.prog (Instr.storeAt 92 r_5_8 t38_40) w_43 fun u_44 w_45 =>
  DoU Try.prog (Instr.storeAt 27 n_10_42 t39_41) w_45 fun u_46 w_47 =>
  LdA (At w_47) 3 r_5_8 fun t41_48 =>
  CallF Try.prog 49 #[t41_48] w_47 fun t42_49 w_50 =>
  Ext t42_49 0 fun t43_51 =>
  Ext t42_49 1 fun t44_52 =>
  Do Try.prog (Instr.alloc 30 true (.tuple #[])) w_50 fun t_11_53 w_54 =>
  DoU Try.prog (Instr.storeAt 92 r_5_8 t43_51) w_54 fun u_55 w_56 =>
  DoU Try.prog (Instr.storeAt 30 t_11_53 t44_52) w_56 fun u_57 w_58 =>
  LdA (At w_58) 3 r_5_8 fun t46_59 =>
  CallF Try.prog 50 #[t46_59] w_58 fun t47_60 w_61 =>
  Ext t47_60 0 fun t48_62 =>
  Ext t47_60 1 fun t49_63 =>
  Bin Try.prog (At w_61) .neq 38 false true t49_63 (.int .i64 0) fun t51_64 =>
  If t51_64 (
   Bld Try.prog 34 [] fun t52_65 =>
   DoU Try.prog (Instr.storeAt 34 t2_1 t52_65) w_61 fun u_66 w_67 =>
   LdA (At w_67) 27 t2_1 fun r_68 =>
   R (.tuple #[r_68, t48_62, t49_63]) w_67) (
   ∃ S_69 : World → Prop, S_69 (World.drew w_61) ∧
   IAdS 1 t19_7 (.int .i64 0) fun t56_70 =>
   LdC S_69 t56_70 fun t57_71 =>
   IAdS 1 t19_7 (.int .i64 1) fun t59_72 =>
   LdC S_69 t59_72 fun t60_73 =>
   IAdS 1 t19_7 (.int .i64 2) fun t62_74 =>
   LdC S_69 t62_74 fun t63_75 =>
   IAdS 1 t29_23 (.int .i64 0) fun t66_76 =>
   LdC S_69 t66_76 fun t67_77 =>
   IAdS 1 t29_23 (.int .i64 1) fun t69_78 =>
   LdC S_69 t69_78 fun t70_79 =>
   IAdS 1 t29_23 (.int .i64 2) fun t72_80 =>
   LdC S_69 t72_80 fun t73_81 =>
   IAdS 1 t29_23 (.int .i64 3) fun t75_82 =>
   LdC S_69 t75_82 fun t76_83 =>
   LdA S_69 7 q_9_31 fun t77_84 =>
   LdA S_69 5 n_10_42 fun t78_85 =>
   LdA S_69 7 t_11_53 fun t79_86 =>
   Bld Try.prog 32 [(0, t24_16), (1, t67_77), (2, t70_79), (3, t73_81), (4, t76_83), (5, t77_84), (6, t78_85), (7, t79_86)] fun t80_87 =>
   Bld Try.prog 34 [(0, t57_71), (1, t60_73), (2, t63_75), (3, t80_87)] fun t81_88 =>
   DoU Try.prog (Instr.storeAt 34 t2_1 t81_88) (World.drew w_61) fun u_89 w_90 =>
   LdA (At w_90) 27 t2_1 fun r_91 =>
   R (.tuple #[r_91, (.int .i64 0), t49_63]) w_90)
theorem C_furlongref10_DocEntry_ent : Ent Try.prog 17 := ⟨_, Try.func17, by decide, rfl⟩
theorem C_furlongref10_DocEntry_link {x0 : Value} {w : World} {R : Value → World → Prop} (h : C_furlongref10_DocEntry x0 w R) : CallF Try.prog 17 #[x0] w R :=
  callF_vFun (L := [0, 2, 3, 4, 5, 6, 7, 8, 9, 10, 11, 12, 13, 51]) (args := [x0]) C_furlongref10_DocEntry_ent Try.func17 rfl (Eq.mp (show (C_furlongref10_DocEntry x0 w R) = vFun Try.prog Try.f17 [0, 2, 3, 4, 5, 6, 7, 8, 9, 10, 11, 12, 13, 51] [x0] w R by kernel_rfl) h)

/-- furlong/command.DecodeAnswer: function 18 -/
def C_command_DecodeAnswer (x0 : Value) (w : World) (R : Value → World → Prop) : Prop :=
  Do Try.prog (Instr.alloc 49 true (.tuple #[])) w fun t2_1 w_2 =>
  CallF Try.prog 51 #[x0, (.func (.func 52) #[] #[])] w_2 fun t6_3 w_4 =>
  Ext t6_3 0 fun t7_5 =>
  Ext t6_3 1 fun t8_6 =>
  Ext t6_3 2 fun t9_7 =>
  DoU Try.prog (Instr.storeAt 49 t2_1 t7_5) w_4 fun u_8 w_9 =>
  LdA (At w_9) 5 t2_1 fun r_10 =>
  R (.tuple #[r_10, t8_6, t9_7]) w_9
theorem C_command_DecodeAnswer_ent : Ent Try.prog 18 := ⟨_, Try.func18, by decide, rfl⟩
theorem C_command_DecodeAnswer_link {x0 : Value} {w : World} {R : Value → World → Prop} (h : C_command_DecodeAnswer x0 w R) : CallF Try.prog 18 #[x0] w R :=
  callF_vFun (L := [0, 2, 3, 4]) (args := [x0]) C_command_DecodeAnswer_ent Try.func18 rfl (Eq.mp (show (C_command_DecodeAnswer x0 w R) = vFun Try.prog Try.f18 [0, 2, 3, 4] [x0] w R by kernel_rfl) h)

/-- furlong/furlongref10.DocAnswer: function 19 -/
def C_furlongref10_DocAnswer (x0 : Value) (w : World) (R : Value → World → Prop) : Prop :=
  Do Try.prog (Instr.alloc 49 true (.tuple #[])) w fun t2_1 w_2 =>
  Bld Try.prog 92 [(0, x0)] fun t13_3 =>
  CallF Try.prog 45 #[t13_3, (.int .i64 3)] w_2 fun t14_4 w_5 =>
  Ext t14_4 0 fun t15_6 =>
  Ext t14_4 1 fun t16_7 =>
  Do Try.prog (Instr.alloc 92 true (.tuple #[])) w_5 fun r_5_8 w_9 =>
  DoU Try.prog (Instr.storeAt 92 r_5_8 t15_6) w_9 fun u_10 w_11 =>
  LdA (At w_11) 3 r_5_8 fun t18_12 =>
  CallF Try.prog 53 #[t18_12] w_11 fun t19_13 w_14 =>
  Ext t19_13 0 fun t20_15 =>
  Ext t19_13 1 fun t21_16 =>
  DoU Try.prog (Instr.storeAt 92 r_5_8 t20_15) w_14 fun u_17 w_18 =>
  LdA (At w_18) 3 r_5_8 fun t23_19 =>
  CallF Try.prog 54 #[t23_19] w_18 fun t24_20 w_21 =>
  Ext t24_20 0 fun t25_22 =>
  Ext t24_20 1 fun t26_23 =>
  DoU Try.prog (Instr.storeAt 92 r_5_8 t25_22) w_21 fun u_24 w_25 =>
  LdA (At w_25) 3 r_5_8 fun t28_26 =>
  CallF Try.prog 50 #[t28_26] w_25 fun t29_27 w_28 =>
  Ext t29_27 0 fun t30_29 =>
  Ext t29_27 1 fun t31_30 =>
  Bin Try.prog (At w_28) .neq 38 false true t31_30 (.int .i64 0) fun t33_31 =>
  If t33_31 (
   Bld Try.prog 49 [] fun t34_32 =>
   DoU Try.prog (Instr.storeAt 49 t2_1 t34_32) w_28 fun u_33 w_34 =>
   LdA (At w_34) 5 t2_1 fun r_35 =>
   R (.tuple #[r_35, t30_29, t31_30]) w_34) (
   ∃ S_36 : World → Prop, S_36 (World.drew w_28) ∧
   IAdS 1 t16_7 (.int .i64 0) fun t38_37 =>
   LdC S_36 t38_37 fun t39_38 =>
   IAdS 1 t16_7 (.int .i64 1) fun t41_39 =>
   LdC S_36 t41_39 fun t42_40 =>
   IAdS 1 t16_7 (.int .i64 2) fun t44_41 =>
   LdC S_36 t44_41 fun t45_42 =>
   Bld Try.prog 49 [(0, t39_38), (1, t42_40), (2, t45_42), (3, t21_16), (4, t26_23)] fun t48_43 =>
   DoU Try.prog (Instr.storeAt 49 t2_1 t48_43) (World.drew w_28) fun u_44 w_45 =>
   LdA (At w_45) 5 t2_1 fun r_46 =>
   R (.tuple #[r_46, (.int .i64 0), t31_30]) w_45)
theorem C_furlongref10_DocAnswer_ent : Ent Try.prog 19 := ⟨_, Try.func19, by decide, rfl⟩
theorem C_furlongref10_DocAnswer_link {x0 : Value} {w : World} {R : Value → World → Prop} (h : C_furlongref10_DocAnswer x0 w R) : CallF Try.prog 19 #[x0] w R :=
  callF_vFun (L := [0, 2, 3, 4, 5, 6, 7, 8, 9, 10, 33]) (args := [x0]) C_furlongref10_DocAnswer_ent Try.func19 rfl (Eq.mp (show (C_furlongref10_DocAnswer x0 w R) = vFun Try.prog Try.f19 [0, 2, 3, 4, 5, 6, 7, 8, 9, 10, 33] [x0] w R by kernel_rfl) h)

/-- furlong/furlongref10.SameAnswer: function 20 -/
def C_furlongref10_SameAnswer (x0 : Value) (x1 : Value) (w : World) (R : Value → World → Prop) : Prop :=
  Do Try.prog (Instr.box 49 x0) w fun a_2_1 w_2 =>
  Do Try.prog (Instr.box 49 x1) w_2 fun b_3_3 w_4 =>
  FAd 0 a_2_1 fun t5_5 =>
  LdC (At w_4) t5_5 fun t6_6 =>
  FAd 0 b_3_3 fun t7_7 =>
  LdC (At w_4) t7_7 fun t8_8 =>
  Bin Try.prog (At w_4) .eql 38 false false t6_6 t8_8 fun t9_9 =>
  GdP (isB t9_9 true) (fun R => FAd 1 a_2_1 R) fun t11_10 =>
  GdP (isB t9_9 true) (fun R => LdC (At w_4) t11_10 R) fun t12_11 =>
  GdP (isB t9_9 true) (fun R => FAd 1 b_3_3 R) fun t13_12 =>
  GdP (isB t9_9 true) (fun R => LdC (At w_4) t13_12 R) fun t14_13 =>
  GdP (isB t9_9 true) (fun R => Bin Try.prog (At w_4) .eql 3 false false t12_11 t14_13 R) fun t15_14 =>
  Pick t9_9 t15_14 (.bool false) fun t16_15 =>
  GdP (isB t16_15 true) (fun R => FAd 2 a_2_1 R) fun t18_16 =>
  GdP (isB t16_15 true) (fun R => LdC (At w_4) t18_16 R) fun t19_17 =>
  GdP (isB t16_15 true) (fun R => FAd 2 b_3_3 R) fun t20_18 =>
  GdP (isB t16_15 true) (fun R => LdC (At w_4) t20_18 R) fun t21_19 =>
  GdP (isB t16_15 true) (fun R => Bin Try.prog (At w_4) .eql 3 false false t19_17 t21_19 R) fun t22_20 =>
  Pick t16_15 t22_20 (.bool false) fun t23_21 =>
  GdP (isB t23_21 true) (fun R => FAd 3 a_2_1 R) fun t25_22 =>
  GdP (isB t23_21 true) (fun R => LdC (At w_4) t25_22 R) fun t26_23 =>
  GdP (isB t23_21 true) (fun R => FAd 3 b_3_3 R) fun t27_24 =>
  GdP (isB t23_21 true) (fun R => LdC (At w_4) t27_24 R) fun t28_25 =>
  Gd (isB t23_21 true) (fun R => CallF Try.prog 55 #[t26_23, t28_25] w_4 R) w_4 fun t29_26 w_27 =>
  Pick t23_21 t29_26 (.bool false) fun t30_28 =>
  GdP (isB t30_28 true) (fun R => FAd 4 a_2_1 R) fun t32_29 =>
  GdP (isB t30_28 true) (fun R => LdC (At w_27) t32_29 R) fun t33_30 =>
  GdP (isB t30_28 true) (fun R => FAd 4 b_3_3 R) fun t34_31 =>
  GdP (isB t30_28 true) (fun R => LdC (At w_27) t34_31 R) fun t35_32 =>
  Gd (isB t30_28 true) (fun R => CallF Try.prog 56 #[t33_30, t35_32] w_27 R) w_27 fun t36_33 w_34 =>
  Pick t30_28 t36_33 (.bool false) fun t37_35 =>
  R t37_35 w_34
theorem C_furlongref10_SameAnswer_ent : Ent Try.prog 20 := ⟨_, Try.func20, by decide, rfl⟩
theorem C_furlongref10_SameAnswer_link {x0 x1 : Value} {w : World} {R : Value → World → Prop} (h : C_furlongref10_SameAnswer x0 x1 w R) : CallF Try.prog 20 #[x0, x1] w R :=
  callF_vFun (L := [0, 1, 2, 3, 4]) (args := [x0, x1]) C_furlongref10_SameAnswer_ent Try.func20 rfl (Eq.mp (show (C_furlongref10_SameAnswer x0 x1 w R) = vFun Try.prog Try.f20 [0, 1, 2, 3, 4] [x0, x1] w R by kernel_rfl) h)

/-- furlong/command.DecodeState: function 21 -/
def C_command_DecodeState (x0 : Value) (w : World) (R : Value → World → Prop) : Prop :=
  Do Try.prog (Instr.alloc 58 true (.tuple #[])) w fun t2_1 w_2 =>
  CallF Try.prog 57 #[x0, (.func (.func 58) #[] #[])] w_2 fun t6_3 w_4 =>
  Ext t6_3 0 fun t7_5 =>
  Ext t6_3 1 fun t8_6 =>
  Ext t6_3 2 fun t9_7 =>
  DoU Try.prog (Instr.storeAt 58 t2_1 t7_5) w_4 fun u_8 w_9 =>
  LdA (At w_9) 8 t2_1 fun r_10 =>
  R (.tuple #[r_10, t8_6, t9_7]) w_9
theorem C_command_DecodeState_ent : Ent Try.prog 21 := ⟨_, Try.func21, by decide, rfl⟩
theorem C_command_DecodeState_link {x0 : Value} {w : World} {R : Value → World → Prop} (h : C_command_DecodeState x0 w R) : CallF Try.prog 21 #[x0] w R :=
  callF_vFun (L := [0, 2, 3, 4]) (args := [x0]) C_command_DecodeState_ent Try.func21 rfl (Eq.mp (show (C_command_DecodeState x0 w R) = vFun Try.prog Try.f21 [0, 2, 3, 4] [x0] w R by kernel_rfl) h)

/-- furlong/furlongref10.DocState: function 22 -/
def C_furlongref10_DocState (x0 : Value) (w : World) (R : Value → World → Prop) : Prop :=
  Do Try.prog (Instr.alloc 58 true (.tuple #[])) w fun t2_1 w_2 =>
  Bld Try.prog 92 [(0, x0)] fun t21_3 =>
  CallF Try.prog 45 #[t21_3, (.int .i64 3)] w_2 fun t22_4 w_5 =>
  Ext t22_4 0 fun t23_6 =>
  Ext t22_4 1 fun t24_7 =>
  Do Try.prog (Instr.alloc 92 true (.tuple #[])) w_5 fun r_5_8 w_9 =>
  DoU Try.prog (Instr.storeAt 92 r_5_8 t23_6) w_9 fun u_10 w_11 =>
  ∃ S_12 : World → Prop, S_12 (World.drew w_11) ∧
  IAdS 1 t24_7 (.int .i64 0) fun t26_13 =>
  LdC S_12 t26_13 fun t27_14 =>
  IAdS 1 t24_7 (.int .i64 1) fun t29_15 =>
  LdC S_12 t29_15 fun t30_16 =>
  IAdS 1 t24_7 (.int .i64 2) fun t32_17 =>
  LdC S_12 t32_17 fun t33_18 =>
  Bld Try.prog 58 [(0, t27_14), (1, t30_16), (2, t33_18)] fun t34_19 =>
  Do Try.prog (Instr.alloc 58 true (.tuple #[])) (World.drew w_11) fun s_7_20 w_21 =>
  S_12 w_21 ∧
  DoU Try.prog (Instr.storeAt 58 s_7_20 t34_19) w_21 fun u_22 w_23 =>
  LdA (At w_23) 3 r_5_8 fun t36_24 =>
  CallF Try.prog 59 #[t36_24] w_23 fun t37_25 w_26 =>
  Ext t37_25 0 fun t38_27 =>
  Ext t37_25 1 fun t39_28 =>
  DoU Try.prog (Instr.storeAt 92 r_5_8 t38_27) w_26 fun u_29 w_30 =>
  ∃ (I_31 : Nat → Value → World → Prop) (m_32 : Nat), I_31 m_32 (.int .i64 0) w_30 ∧
  ∀ m_33, ∀ i_9_34, ∀ w_35, I_31 m_33 i_9_34 w_35 →
   Bin Try.prog (At w_35) .lss 3 false false i_9_34 t39_28 fun t42_36 =>
   GdP (isB t42_36 true) (fun R => FAd 2 r_5_8 R) fun t44_37 =>
   GdP (isB t42_36 true) (fun R => LdC (At w_35) t44_37 R) fun t45_38 =>
   GdP (isB t42_36 true) (fun R => Bin Try.prog (At w_35) .eql 38 false true t45_38 (.int .i64 0) R) fun t46_39 =>
   Pick t42_36 t46_39 (.bool false) fun t47_40 =>
   If t47_40 (
    Do Try.prog (Instr.alloc 25 true (.tuple #[])) w_35 fun q_10_41 w_42 =>
    LdA (At w_42) 3 r_5_8 fun t51_43 =>
    CallF Try.prog 47 #[t51_43] w_42 fun t52_44 w_45 =>
    Ext t52_44 0 fun t53_46 =>
    Ext t52_44 1 fun t54_47 =>
    DoU Try.prog (Instr.storeAt 92 r_5_8 t53_46) w_45 fun u_48 w_49 =>
    DoU Try.prog (Instr.storeAt 25 q_10_41 t54_47) w_49 fun u_50 w_51 =>
    FAd 3 s_7_20 fun t55_52 =>
    LdC (At w_51) t55_52 fun t56_53 =>
    LdA (At w_51) 7 q_10_41 fun t57_54 =>
    Do Try.prog (Instr.buildSlice 53 1 #[(0, t57_54)]) w_51 fun t58_55 w_56 =>
    Do Try.prog (Builtin.append_ #[53, 53] 53 #[t56_53, t58_55]) w_56 fun t59_57 w_58 =>
    FAd 3 s_7_20 fun t60_59 =>
    DoU Try.prog (Instr.storeAt 53 t60_59 t59_57) w_58 fun u_60 w_61 =>
    Bin Try.prog (At w_61) .add 3 false true i_9_34 (.int .i64 1) fun t49_62 =>
    ∃ m_63, m_63 < m_33 ∧
    I_31 m_63 t49_62 w_61) (
    LdA (At w_35) 3 r_5_8 fun t62_64 =>
    CallF Try.prog 59 #[t62_64] w_35 fun t63_65 w_66 =>
    Ext t63_65 0 fun t64_67 =>
    Ext t63_65 1 fun t65_68 =>
    DoU Try.prog (Instr.storeAt 92 r_5_8 t64_67) w_66 fun u_69 w_70 =>
    ∃ (I_71 : Nat → Value → World → Prop) (m_72 : Nat), I_71 m_72 (.int .i64 0) w_70 ∧
    ∀ m_73, ∀ i_11_74, ∀ w_75, I_71 m_73 i_11_74 w_75 →
     Bin Try.prog (At w_75) .lss 3 false false i_11_74 t65_68 fun t68_76 =>
     GdP (isB t68_76 true) (fun R => FAd 2 r_5_8 R) fun t70_77 =>
     GdP (isB t68_76 true) (fun R => LdC (At w_75) t70_77 R) fun t71_78 =>
     GdP (isB t68_76 true) (fun R => Bin Try.prog (At w_75) .eql 38 false true t71_78 (.int .i64 0) R) fun t72_79 =>
     Pick t68_76 t72_79 (.bool false) fun t73_80 =>
     If t73_80 (
      Do Try.prog (Instr.alloc 27 true (.tuple #[])) w_75 fun x_12_81 w_82 =>
      LdA (At w_82) 3 r_5_8 fun t77_83 =>
      CallF Try.prog 48 #[t77_83] w_82 fun t78_84 w_85 =>
      Ext t78_84 0 fun t79_86 =>
      Ext t78_84 1 fun t80_87 =>
      DoU Try.prog (Instr.storeAt 92 r_5_8 t79_86) w_85 fun u_88 w_89 =>
      DoU Try.prog (Instr.storeAt 27 x_12_81 t80_87) w_89 fun u_90 w_91 =>
      FAd 4 s_7_20 fun t81_92 =>
      LdC (At w_91) t81_92 fun t82_93 =>
      LdA (At w_91) 5 x_12_81 fun t83_94 =>
      Do Try.prog (Instr.buildSlice 54 1 #[(0, t83_94)]) w_91 fun t84_95 w_96 =>
      Do Try.prog (Builtin.append_ #[54, 54] 54 #[t82_93, t84_95]) w_96 fun t85_97 w_98 =>
      FAd 4 s_7_20 fun t86_99 =>
      DoU Try.prog (Instr.storeAt 54 t86_99 t85_97) w_98 fun u_100 w_101 =>
      Bin Try.prog (At w_101) .add 3 false true i_11_74 (.int .i64 1) fun t75_102 =>
      ∃ m_103, m_103 < m_73 ∧
      I_71 m_103 t75_102 w_101) (
      LdA (At w_75) 3 r_5_8 fun t88_104 =>
      CallF Try.prog 59 #[t88_104] w_75 fun t89_105 w_106 =>
      Ext t89_105 0 fun t90_107 =>
      Ext t89_105 1 fun t91_108 =>
      DoU Try.prog (Instr.storeAt 92 r_5_8 t90_107) w_106 fun u_109 w_110 =>
      ∃ (I_111 : Nat → Value → World → Prop) (m_112 : Nat), I_111 m_112 (.int .i64 0) w_110 ∧
      ∀ m_113, ∀ i_13_114, ∀ w_115, I_111 m_113 i_13_114 w_115 →
       Bin Try.prog (At w_115) .lss 3 false false i_13_114 t91_108 fun t94_116 =>
       GdP (isB t94_116 true) (fun R => FAd 2 r_5_8 R) fun t96_117 =>
       GdP (isB t94_116 true) (fun R => LdC (At w_115) t96_117 R) fun t97_118 =>
       GdP (isB t94_116 true) (fun R => Bin Try.prog (At w_115) .eql 38 false true t97_118 (.int .i64 0) R) fun t98_119 =>
       Pick t94_116 t98_119 (.bool false) fun t99_120 =>
       If t99_120 (
        Do Try.prog (Instr.alloc 30 true (.tuple #[])) w_115 fun t_14_121 w_122 =>
        LdA (At w_122) 3 r_5_8 fun t103_123 =>
        CallF Try.prog 49 #[t103_123] w_122 fun t104_124 w_125 =>
        Ext t104_124 0 fun t105_126 =>
        Ext t104_124 1 fun t106_127 =>
        DoU Try.prog (Instr.storeAt 92 r_5_8 t105_126) w_125 fun u_128 w_129 =>
        DoU Try.prog (Instr.storeAt 30 t_14_121 t106_127) w_129 fun u_130 w_131 =>
        FAd 5 s_7_20 fun t107_132 =>
        LdC (At w_131) t107_132 fun t108_133 =>
        LdA (At w_131) 7 t_14_121 fun t109_134 =>
        Do Try.prog (Instr.buildSlice 55 1 #[(0, t109_134)]) w_131 fun t110_135 w_136 =>
        Do Try.prog (Builtin.append_ #[55, 55] 55 #[t108_133, t110_135]) w_136 fun t111_137 w_138 =>
        FAd 5 s_7_20 fun t112_139 =>
        DoU Try.prog (Instr.storeAt 55 t112_139 t111_137) w_138 fun u_140 w_141 =>
        Bin Try.prog (At w_141) .add 3 false true i_13_114 (.int .i64 1) fun t101_142 =>
        ∃ m_143, m_143 < m_113 ∧
        I_111 m_143 t101_142 w_141) (
        LdA (At w_115) 3 r_5_8 fun t114_144 =>
        CallF Try.prog 54 #[t114_144] w_115 fun t115_145 w_146 =>
        Ext t115_145 0 fun t116_147 =>
        Ext t115_145 1 fun t117_148 =>
        DoU Try.prog (Instr.storeAt 92 r_5_8 t116_147) w_146 fun u_149 w_150 =>
        FAd 6 s_7_20 fun t118_151 =>
        DoU Try.prog (Instr.storeAt 47 t118_151 t117_148) w_150 fun u_152 w_153 =>
        LdA (At w_153) 3 r_5_8 fun t120_154 =>
        CallF Try.prog 59 #[t120_154] w_153 fun t121_155 w_156 =>
        Ext t121_155 0 fun t122_157 =>
        Ext t121_155 1 fun t123_158 =>
        DoU Try.prog (Instr.storeAt 92 r_5_8 t122_157) w_156 fun u_159 w_160 =>
        ∃ (I_161 : Nat → Value → World → Prop) (m_162 : Nat), I_161 m_162 (.int .i64 0) w_160 ∧
        ∀ m_163, ∀ i_15_164, ∀ w_165, I_161 m_163 i_15_164 w_165 →
         Bin Try.prog (At w_165) .lss 3 false false i_15_164 t123_158 fun t126_166 =>
         GdP (isB t126_166 true) (fun R => FAd 2 r_5_8 R) fun t128_167 =>
         GdP (isB t126_166 true) (fun R => LdC (At w_165) t128_167 R) fun t129_168 =>
         GdP (isB t126_166 true) (fun R => Bin Try.prog (At w_165) .eql 38 false true t129_168 (.int .i64 0) R) fun t130_169 =>
         Pick t126_166 t130_169 (.bool false) fun t131_170 =>
         If t131_170 (
          LdA (At w_165) 3 r_5_8 fun t135_171 =>
          CallF Try.prog 45 #[t135_171, (.int .i64 2)] w_165 fun t136_172 w_173 =>
          Ext t136_172 0 fun t137_174 =>
          Ext t136_172 1 fun t138_175 =>
          DoU Try.prog (Instr.storeAt 92 r_5_8 t137_174) w_173 fun u_176 w_177 =>
          ∃ S_178 : World → Prop, S_178 (World.drew w_177) ∧
          FAd 7 s_7_20 fun t139_179 =>
          LdC S_178 t139_179 fun t140_180 =>
          IAdS 1 t138_175 (.int .i64 0) fun t142_181 =>
          LdC S_178 t142_181 fun t143_182 =>
          IAdS 1 t138_175 (.int .i64 1) fun t145_183 =>
          LdC S_178 t145_183 fun t146_184 =>
          Bld Try.prog 119 [(0, t143_182), (1, t146_184)] fun t147_185 =>
          Do Try.prog (Instr.buildSlice 56 1 #[(0, t147_185)]) (World.drew w_177) fun t148_186 w_187 =>
          S_178 w_187 ∧
          Do Try.prog (Builtin.append_ #[56, 56] 56 #[t140_180, t148_186]) w_187 fun t149_188 w_189 =>
          S_178 w_189 ∧
          FAd 7 s_7_20 fun t150_190 =>
          DoU Try.prog (Instr.storeAt 56 t150_190 t149_188) w_189 fun u_191 w_192 =>
          Bin Try.prog (At w_192) .add 3 false true i_15_164 (.int .i64 1) fun t133_193 =>
          ∃ m_194, m_194 < m_163 ∧
          I_161 m_194 t133_193 w_192) (
          LdA (At w_165) 3 r_5_8 fun t152_195 =>
          CallF Try.prog 50 #[t152_195] w_165 fun t153_196 w_197 =>
          Ext t153_196 0 fun t154_198 =>
          Ext t153_196 1 fun t155_199 =>
          Bin Try.prog (At w_197) .neq 38 false true t155_199 (.int .i64 0) fun t157_200 =>
          If t157_200 (
           Bld Try.prog 58 [] fun t158_201 =>
           DoU Try.prog (Instr.storeAt 58 t2_1 t158_201) w_197 fun u_202 w_203 =>
           LdA (At w_203) 8 t2_1 fun r_204 =>
           R (.tuple #[r_204, t154_198, t155_199]) w_203) (
           LdA (At w_197) 8 s_7_20 fun t161_205 =>
           DoU Try.prog (Instr.storeAt 58 t2_1 t161_205) w_197 fun u_206 w_207 =>
           LdA (At w_207) 8 t2_1 fun r_208 =>
           R (.tuple #[r_208, (.int .i64 0), t155_199]) w_207)))))
theorem C_furlongref10_DocState_ent : Ent Try.prog 22 := ⟨_, Try.func22, by decide, rfl⟩
theorem C_furlongref10_DocState_link {x0 : Value} {w : World} {R : Value → World → Prop} (h : C_furlongref10_DocState x0 w R) : CallF Try.prog 22 #[x0] w R :=
  callF_vFun (L := [0, 2, 3, 4, 5, 6, 7, 8, 9, 10, 11, 12, 13, 14, 15, 16, 17, 18, 47, 73, 99, 131, 157]) (args := [x0]) C_furlongref10_DocState_ent Try.func22 rfl (Eq.mp (show (C_furlongref10_DocState x0 w R) = vFun Try.prog Try.f22 [0, 2, 3, 4, 5, 6, 7, 8, 9, 10, 11, 12, 13, 14, 15, 16, 17, 18, 47, 73, 99, 131, 157] [x0] w R by kernel_rfl) h)

/-- furlong/furlongref10.SameState: function 23 -/
def C_furlongref10_SameState (x0 : Value) (x1 : Value) (w : World) (R : Value → World → Prop) : Prop :=
  Do Try.prog (Instr.box 58 x0) w fun a_2_1 w_2 =>
  Do Try.prog (Instr.box 58 x1) w_2 fun b_3_3 w_4 =>
  FAd 0 a_2_1 fun t8_5 =>
  LdC (At w_4) t8_5 fun t9_6 =>
  FAd 0 b_3_3 fun t10_7 =>
  LdC (At w_4) t10_7 fun t11_8 =>
  Bin Try.prog (At w_4) .neq 2 false false t9_6 t11_8 fun t12_9 =>
  GdP (isB t12_9 false) (fun R => FAd 1 a_2_1 R) fun t14_10 =>
  GdP (isB t12_9 false) (fun R => LdC (At w_4) t14_10 R) fun t15_11 =>
  GdP (isB t12_9 false) (fun R => FAd 1 b_3_3 R) fun t16_12 =>
  GdP (isB t12_9 false) (fun R => LdC (At w_4) t16_12 R) fun t17_13 =>
  GdP (isB t12_9 false) (fun R => Bin Try.prog (At w_4) .neq 2 false false t15_11 t17_13 R) fun t18_14 =>
  Pick t12_9 (.bool true) t18_14 fun t19_15 =>
  GdP (isB t19_15 false) (fun R => FAd 2 a_2_1 R) fun t21_16 =>
  GdP (isB t19_15 false) (fun R => LdC (At w_4) t21_16 R) fun t22_17 =>
  GdP (isB t19_15 false) (fun R => FAd 2 b_3_3 R) fun t23_18 =>
  GdP (isB t19_15 false) (fun R => LdC (At w_4) t23_18 R) fun t24_19 =>
  GdP (isB t19_15 false) (fun R => Bin Try.prog (At w_4) .neq 2 false false t22_17 t24_19 R) fun t25_20 =>
  Pick t19_15 (.bool true) t25_20 fun t26_21 =>
  GdP (isB t26_21 false) (fun R => FAd 4 a_2_1 R) fun t28_22 =>
  GdP (isB t26_21 false) (fun R => LdC (At w_4) t28_22 R) fun t29_23 =>
  GdP (isB t26_21 false) (fun R => Len t29_23 R) fun t30_24 =>
  GdP (isB t26_21 false) (fun R => FAd 4 b_3_3 R) fun t31_25 =>
  GdP (isB t26_21 false) (fun R => LdC (At w_4) t31_25 R) fun t32_26 =>
  GdP (isB t26_21 false) (fun R => Len t32_26 R) fun t33_27 =>
  GdP (isB t26_21 false) (fun R => Bin Try.prog (At w_4) .neq 3 false false t30_24 t33_27 R) fun t34_28 =>
  Pick t26_21 (.bool true) t34_28 fun t35_29 =>
  GdP (isB t35_29 false) (fun R => FAd 5 a_2_1 R) fun t37_30 =>
  GdP (isB t35_29 false) (fun R => LdC (At w_4) t37_30 R) fun t38_31 =>
  GdP (isB t35_29 false) (fun R => Len t38_31 R) fun t39_32 =>
  GdP (isB t35_29 false) (fun R => FAd 5 b_3_3 R) fun t40_33 =>
  GdP (isB t35_29 false) (fun R => LdC (At w_4) t40_33 R) fun t41_34 =>
  GdP (isB t35_29 false) (fun R => Len t41_34 R) fun t42_35 =>
  GdP (isB t35_29 false) (fun R => Bin Try.prog (At w_4) .neq 3 false false t39_32 t42_35 R) fun t43_36 =>
  Pick t35_29 (.bool true) t43_36 fun t44_37 =>
  GdP (isB t44_37 false) (fun R => FAd 7 a_2_1 R) fun t46_38 =>
  GdP (isB t44_37 false) (fun R => LdC (At w_4) t46_38 R) fun t47_39 =>
  GdP (isB t44_37 false) (fun R => Len t47_39 R) fun t48_40 =>
  GdP (isB t44_37 false) (fun R => FAd 7 b_3_3 R) fun t49_41 =>
  GdP (isB t44_37 false) (fun R => LdC (At w_4) t49_41 R) fun t50_42 =>
  GdP (isB t44_37 false) (fun R => Len t50_42 R) fun t51_43 =>
  GdP (isB t44_37 false) (fun R => Bin Try.prog (At w_4) .neq 3 false false t48_40 t51_43 R) fun t52_44 =>
  Pick t44_37 (.bool true) t52_44 fun t53_45 =>
  If t53_45 (
   R (.bool false) w_4) (
   FAd 4 a_2_1 fun t54_46 =>
   LdC (At w_4) t54_46 fun t55_47 =>
   Len t55_47 fun t56_48 =>
   ∃ (I_49 : Nat → Value → Value → World → Prop) (m_50 : Nat), I_49 m_50 (.bool false) (.int .i64 0) w_4 ∧
   ∀ m_51, ∀ t4_52, ∀ t57_53, ∀ w_54, I_49 m_51 t4_52 t57_53 w_54 →
    Bin Try.prog (At w_54) .lss 3 false false t57_53 t56_48 fun t58_55 =>
    If t58_55 (
     ∃ S_56 : World → Prop, S_56 (World.drew w_54) ∧
     FAd 4 a_2_1 fun t60_57 =>
     LdC S_56 t60_57 fun t61_58 =>
     IAdS 5 t61_58 t57_53 fun t63_59 =>
     LdA S_56 5 t63_59 fun t64_60 =>
     FAd 4 b_3_3 fun t65_61 =>
     LdC S_56 t65_61 fun t66_62 =>
     IAdS 5 t66_62 t57_53 fun t68_63 =>
     LdA S_56 5 t68_63 fun t69_64 =>
     Bin Try.prog S_56 .neq 27 false false t64_60 t69_64 fun t70_65 =>
     If t70_65 (
      R (.bool false) (World.drew w_54)) (
      Bin Try.prog (At (World.drew w_54)) .add 3 false true t57_53 (.int .i64 1) fun t71_66 =>
      ∃ m_67, m_67 < m_51 ∧
      I_49 m_67 t4_52 t71_66 (World.drew w_54))) (
     FAd 5 a_2_1 fun t72_68 =>
     LdC (At w_54) t72_68 fun t73_69 =>
     Len t73_69 fun t74_70 =>
     ∃ (I_71 : Nat → Value → Value → World → Prop) (m_72 : Nat), I_71 m_72 t4_52 (.int .i64 0) w_54 ∧
     ∀ m_73, ∀ t4_74, ∀ t75_75, ∀ w_76, I_71 m_73 t4_74 t75_75 w_76 →
      Bin Try.prog (At w_76) .lss 3 false false t75_75 t74_70 fun t76_77 =>
      If t76_77 (
       ∃ S_78 : World → Prop, S_78 (World.drew w_76) ∧
       FAd 5 a_2_1 fun t78_79 =>
       LdC S_78 t78_79 fun t79_80 =>
       IAdS 7 t79_80 t75_75 fun t81_81 =>
       LdA S_78 7 t81_81 fun t82_82 =>
       FAd 5 b_3_3 fun t83_83 =>
       LdC S_78 t83_83 fun t84_84 =>
       IAdS 7 t84_84 t75_75 fun t86_85 =>
       LdA S_78 7 t86_85 fun t87_86 =>
       CallF Try.prog 42 #[t82_82, t87_86] (World.drew w_76) fun t88_87 w_88 =>
       S_78 w_88 ∧
       Un Try.prog S_78 .not t88_87 fun t89_89 =>
       If t89_89 (
        R (.bool false) w_88) (
        Bin Try.prog (At w_88) .add 3 false true t75_75 (.int .i64 1) fun t90_90 =>
        ∃ m_91, m_91 < m_73 ∧
        I_71 m_91 t4_74 t90_90 w_88)) (
       FAd 7 a_2_1 fun t91_92 =>
       LdC (At w_76) t91_92 fun t92_93 =>
       Len t92_93 fun t93_94 =>
       ∃ (I_95 : Nat → Value → Value → World → Prop) (m_96 : Nat), I_95 m_96 t4_74 (.int .i64 0) w_76 ∧
       ∀ m_97, ∀ t4_98, ∀ t94_99, ∀ w_100, I_95 m_97 t4_98 t94_99 w_100 →
        Bin Try.prog (At w_100) .lss 3 false false t94_99 t93_94 fun t95_101 =>
        If t95_101 (
         ∃ S_102 : World → Prop, S_102 (World.drew w_100) ∧
         FAd 7 a_2_1 fun t97_103 =>
         LdC S_102 t97_103 fun t98_104 =>
         IAdS 2 t98_104 t94_99 fun t100_105 =>
         LdA S_102 2 t100_105 fun t101_106 =>
         FAd 7 b_3_3 fun t102_107 =>
         LdC S_102 t102_107 fun t103_108 =>
         IAdS 2 t103_108 t94_99 fun t105_109 =>
         LdA S_102 2 t105_109 fun t106_110 =>
         Bin Try.prog S_102 .neq 119 false false t101_106 t106_110 fun t107_111 =>
         If t107_111 (
          R (.bool false) (World.drew w_100)) (
          Bin Try.prog (At (World.drew w_100)) .add 3 false true t94_99 (.int .i64 1) fun t108_112 =>
          ∃ m_113, m_113 < m_97 ∧
          I_95 m_113 t4_98 t108_112 (World.drew w_100))) (
         FAd 3 a_2_1 fun t109_114 =>
         LdC (At w_100) t109_114 fun t110_115 =>
         FAd 3 b_3_3 fun t111_116 =>
         LdC (At w_100) t111_116 fun t112_117 =>
         CallF Try.prog 60 #[t110_115, t112_117] w_100 fun t113_118 w_119 =>
         GdP (isB t113_118 true) (fun R => FAd 6 a_2_1 R) fun t115_120 =>
         GdP (isB t113_118 true) (fun R => LdC (At w_119) t115_120 R) fun t116_121 =>
         GdP (isB t113_118 true) (fun R => FAd 6 b_3_3 R) fun t117_122 =>
         GdP (isB t113_118 true) (fun R => LdC (At w_119) t117_122 R) fun t118_123 =>
         Gd (isB t113_118 true) (fun R => CallF Try.prog 56 #[t116_121, t118_123] w_119 R) w_119 fun t119_124 w_125 =>
         Pick t113_118 t119_124 (.bool false) fun t120_126 =>
         R t120_126 w_125))))
theorem C_furlongref10_SameState_ent : Ent Try.prog 23 := ⟨_, Try.func23, by decide, rfl⟩
theorem C_furlongref10_SameState_link {x0 x1 : Value} {w : World} {R : Value → World → Prop} (h : C_furlongref10_SameState x0 x1 w R) : CallF Try.prog 23 #[x0, x1] w R :=
  callF_vFun (L := [0, 1, 2, 3, 4, 5, 6, 7, 53, 56, 57, 58, 70, 74, 75, 76, 89, 93, 94, 95, 107]) (args := [x0, x1]) C_furlongref10_SameState_ent Try.func23 rfl (Eq.mp (show (C_furlongref10_SameState x0 x1 w R) = vFun Try.prog Try.f23 [0, 1, 2, 3, 4, 5, 6, 7, 53, 56, 57, 58, 70, 74, 75, 76, 89, 93, 94, 95, 107] [x0, x1] w R by kernel_rfl) h)

/-- furlong/command.EncodeAnswer: function 24 -/
def C_command_EncodeAnswer (x0 : Value) (w : World) (R : Value → World → Prop) : Prop :=
  Do Try.prog (Instr.box 49 x0) w fun a_1_1 w_2 =>
  Bld Try.prog 72 [] fun t5_3 =>
  Do Try.prog (Instr.box 72 t5_3) w_2 fun t6_4 w_5 =>
  FAd 0 a_1_1 fun t8_6 =>
  LdC (At w_5) t8_6 fun t9_7 =>
  FAd 1 a_1_1 fun t10_8 =>
  LdC (At w_5) t10_8 fun t11_9 =>
  FAd 2 a_1_1 fun t12_10 =>
  LdC (At w_5) t12_10 fun t13_11 =>
  Do Try.prog (Instr.buildSlice 81 3 #[(0, t9_7), (1, t11_9), (2, t13_11)]) w_5 fun t14_12 w_13 =>
  CallF Try.prog 31 #[t6_4, t14_12] w_13 fun t15_14 w_15 =>
  FAd 3 a_1_1 fun t17_16 =>
  LdC (At w_15) t17_16 fun t18_17 =>
  CallF Try.prog 61 #[t6_4, t18_17] w_15 fun t19_18 w_19 =>
  FAd 4 a_1_1 fun t21_20 =>
  LdC (At w_19) t21_20 fun t22_21 =>
  CallF Try.prog 62 #[t6_4, t22_21, (.func (.func 63) #[t6_4] #[])] w_19 fun t25_22 w_23 =>
  CallF Try.prog 36 #[t6_4] w_23 fun t27_24 w_25 =>
  Ext t27_24 0 fun t28_26 =>
  Ext t27_24 1 fun t29_27 =>
  R (.tuple #[t28_26, t29_27]) w_25
theorem C_command_EncodeAnswer_ent : Ent Try.prog 24 := ⟨_, Try.func24, by decide, rfl⟩
theorem C_command_EncodeAnswer_link {x0 : Value} {w : World} {R : Value → World → Prop} (h : C_command_EncodeAnswer x0 w R) : CallF Try.prog 24 #[x0] w R :=
  callF_vFun (L := [0, 1, 2, 3, 4]) (args := [x0]) C_command_EncodeAnswer_ent Try.func24 rfl (Eq.mp (show (C_command_EncodeAnswer x0 w R) = vFun Try.prog Try.f24 [0, 1, 2, 3, 4] [x0] w R by kernel_rfl) h)

/-- furlong/furlongref10.Answer: function 25 -/
def C_furlongref10_Answer (x0 : Value) (w : World) (R : Value → World → Prop) : Prop :=
  Do Try.prog (Instr.box 49 x0) w fun a_1_1 w_2 =>
  FAd 3 a_1_1 fun t5_3 =>
  LdC (At w_2) t5_3 fun t6_4 =>
  Len t6_4 fun t7_5 =>
  Bin Try.prog (At w_2) .gtr 3 false true t7_5 (.int .i64 1024) fun t8_6 =>
  GdP (isB t8_6 false) (fun R => FAd 4 a_1_1 R) fun t10_7 =>
  GdP (isB t8_6 false) (fun R => LdC (At w_2) t10_7 R) fun t11_8 =>
  Gd (isB t8_6 false) (fun R => CallF Try.prog 64 #[t11_8] w_2 R) w_2 fun t12_9 w_10 =>
  GdP (isB t8_6 false) (fun R => Un Try.prog (At w_10) .not t12_9 R) fun t13_11 =>
  Pick t8_6 (.bool true) t13_11 fun t14_12 =>
  If t14_12 (
   R (.tuple #[(.slice none 0 0), (.int .i64 3)]) w_10) (
   FAd 0 a_1_1 fun t15_13 =>
   LdC (At w_10) t15_13 fun t16_14 =>
   FAd 1 a_1_1 fun t17_15 =>
   LdC (At w_10) t17_15 fun t18_16 =>
   FAd 2 a_1_1 fun t19_17 =>
   LdC (At w_10) t19_17 fun t20_18 =>
   Do Try.prog (Instr.buildSlice 81 3 #[(0, t16_14), (1, t18_16), (2, t20_18)]) w_10 fun t21_19 w_20 =>
   CallF Try.prog 37 #[(.slice none 0 0), t21_19] w_20 fun t22_21 w_22 =>
   FAd 3 a_1_1 fun t24_23 =>
   LdC (At w_22) t24_23 fun t25_24 =>
   CallF Try.prog 65 #[t25_24] w_22 fun t26_25 w_26 =>
   Do Try.prog (Builtin.append_ #[37, 37] 37 #[t22_21, t26_25]) w_26 fun t27_27 w_28 =>
   FAd 4 a_1_1 fun t29_29 =>
   LdC (At w_28) t29_29 fun t30_30 =>
   CallF Try.prog 66 #[t30_30] w_28 fun t31_31 w_32 =>
   Do Try.prog (Builtin.append_ #[37, 37] 37 #[t27_27, t31_31]) w_32 fun t32_33 w_34 =>
   R (.tuple #[t32_33, (.int .i64 0)]) w_34)
theorem C_furlongref10_Answer_ent : Ent Try.prog 25 := ⟨_, Try.func25, by decide, rfl⟩
theorem C_furlongref10_Answer_link {x0 : Value} {w : World} {R : Value → World → Prop} (h : C_furlongref10_Answer x0 w R) : CallF Try.prog 25 #[x0] w R :=
  callF_vFun (L := [0, 1, 2, 3, 4, 14]) (args := [x0]) C_furlongref10_Answer_ent Try.func25 rfl (Eq.mp (show (C_furlongref10_Answer x0 w R) = vFun Try.prog Try.f25 [0, 1, 2, 3, 4, 14] [x0] w R by kernel_rfl) h)

/-- furlong/furlongref10.TwinState: function 26 -/
def C_furlongref10_TwinState (x0 : Value) (w : World) (R : Value → World → Prop) : Prop :=
  Do Try.prog (Instr.box 58 x0) w fun s_1_1 w_2 =>
  Do Try.prog (Instr.alloc 58 true (.tuple #[])) w_2 fun t2_3 w_4 =>
  Do Try.prog (Instr.buildSlice 53 0 #[]) w_4 fun t6_5 w_6 =>
  FAd 3 s_1_1 fun t7_7 =>
  LdC (At w_6) t7_7 fun t8_8 =>
  Do Try.prog (Builtin.append_ #[53, 53] 53 #[t6_5, t8_8]) w_6 fun t9_9 w_10 =>
  FAd 3 s_1_1 fun t10_11 =>
  DoU Try.prog (Instr.storeAt 53 t10_11 t9_9) w_10 fun u_12 w_13 =>
  Do Try.prog (Instr.buildSlice 54 0 #[]) w_13 fun t11_14 w_15 =>
  FAd 4 s_1_1 fun t12_16 =>
  LdC (At w_15) t12_16 fun t13_17 =>
  Do Try.prog (Builtin.append_ #[54, 54] 54 #[t11_14, t13_17]) w_15 fun t14_18 w_19 =>
  FAd 4 s_1_1 fun t15_20 =>
  DoU Try.prog (Instr.storeAt 54 t15_20 t14_18) w_19 fun u_21 w_22 =>
  FAd 5 s_1_1 fun t16_23 =>
  LdC (At w_22) t16_23 fun t17_24 =>
  Len t17_24 fun t18_25 =>
  ∃ (I_26 : Nat → Value → Value → World → Prop) (m_27 : Nat), I_26 m_27 (.slice none 0 0) (.int .i64 0) w_22 ∧
  ∀ m_28, ∀ l_3_29, ∀ t19_30, ∀ w_31, I_26 m_28 l_3_29 t19_30 w_31 →
   Bin Try.prog (At w_31) .lss 3 false false t19_30 t18_25 fun t20_32 =>
   If t20_32 (
    IAdS 7 t17_24 t19_30 fun t21_33 =>
    LdA (At w_31) 7 t21_33 fun t22_34 =>
    Do Try.prog (Instr.alloc 30 true (.tuple #[])) w_31 fun t_5_35 w_36 =>
    DoU Try.prog (Instr.storeAt 30 t_5_35 t22_34) w_36 fun u_37 w_38 =>
    LdA (At w_38) 7 t_5_35 fun t24_39 =>
    CallF Try.prog 30 #[t24_39] w_38 fun t25_40 w_41 =>
    Do Try.prog (Instr.buildSlice 55 1 #[(0, t25_40)]) w_41 fun t26_42 w_43 =>
    Do Try.prog (Builtin.append_ #[55, 55] 55 #[l_3_29, t26_42]) w_43 fun t27_44 w_45 =>
    Bin Try.prog (At w_45) .add 3 false true t19_30 (.int .i64 1) fun t28_46 =>
    ∃ m_47, m_47 < m_28 ∧
    I_26 m_47 t27_44 t28_46 w_45) (
    FAd 5 s_1_1 fun t30_48 =>
    DoU Try.prog (Instr.storeAt 55 t30_48 l_3_29) w_31 fun u_49 w_50 =>
    FAd 6 s_1_1 fun t31_51 =>
    LdC (At w_50) t31_51 fun t32_52 =>
    CallF Try.prog 67 #[t32_52] w_50 fun t33_53 w_54 =>
    FAd 6 s_1_1 fun t34_55 =>
    DoU Try.prog (Instr.storeAt 47 t34_55 t33_53) w_54 fun u_56 w_57 =>
    Do Try.prog (Instr.buildSlice 56 0 #[]) w_57 fun t35_58 w_59 =>
    FAd 7 s_1_1 fun t36_60 =>
    LdC (At w_59) t36_60 fun t37_61 =>
    Do Try.prog (Builtin.append_ #[56, 56] 56 #[t35_58, t37_61]) w_59 fun t38_62 w_63 =>
    FAd 7 s_1_1 fun t39_64 =>
    DoU Try.prog (Instr.storeAt 56 t39_64 t38_62) w_63 fun u_65 w_66 =>
    LdA (At w_66) 8 s_1_1 fun t40_67 =>
    DoU Try.prog (Instr.storeAt 58 t2_3 t40_67) w_66 fun u_68 w_69 =>
    LdA (At w_69) 8 t2_3 fun r_70 =>
    R r_70 w_69)
theorem C_furlongref10_TwinState_ent : Ent Try.prog 26 := ⟨_, Try.func26, by decide, rfl⟩
theorem C_furlongref10_TwinState_link {x0 : Value} {w : World} {R : Value → World → Prop} (h : C_furlongref10_TwinState x0 w R) : CallF Try.prog 26 #[x0] w R :=
  callF_vFun (L := [0, 1, 2, 3, 5, 17, 18, 19, 20]) (args := [x0]) C_furlongref10_TwinState_ent Try.func26 rfl (Eq.mp (show (C_furlongref10_TwinState x0 w R) = vFun Try.prog Try.f26 [0, 1, 2, 3, 5, 17, 18, 19, 20] [x0] w R by kernel_rfl) h)

/-- furlong/command.EncodeState: function 27 -/
def C_command_EncodeState (x0 : Value) (w : World) (R : Value → World → Prop) : Prop :=
  Do Try.prog (Instr.box 58 x0) w fun s_1_1 w_2 =>
  Bld Try.prog 72 [] fun t5_3 =>
  Do Try.prog (Instr.box 72 t5_3) w_2 fun t6_4 w_5 =>
  Do Try.prog (Instr.alloc 70 true (.tuple #[])) w_5 fun w_4_6 w_7 =>
  DoU Try.prog (Instr.storeAt 70 w_4_6 t6_4) w_7 fun u_8 w_9 =>
  LdC (At w_9) w_4_6 fun t7_10 =>
  FAd 0 s_1_1 fun t8_11 =>
  LdC (At w_9) t8_11 fun t9_12 =>
  FAd 1 s_1_1 fun t10_13 =>
  LdC (At w_9) t10_13 fun t11_14 =>
  FAd 2 s_1_1 fun t12_15 =>
  LdC (At w_9) t12_15 fun t13_16 =>
  Do Try.prog (Instr.buildSlice 81 3 #[(0, t9_12), (1, t11_14), (2, t13_16)]) w_9 fun t14_17 w_18 =>
  CallF Try.prog 31 #[t7_10, t14_17] w_18 fun t15_19 w_20 =>
  LdC (At w_20) w_4_6 fun t16_21 =>
  FAd 3 s_1_1 fun t17_22 =>
  LdC (At w_20) t17_22 fun t18_23 =>
  LdC (At w_20) w_4_6 fun t19_24 =>
  CallF Try.prog 68 #[t16_21, t18_23, (.func (.func 33) #[t19_24] #[])] w_20 fun t21_25 w_26 =>
  LdC (At w_26) w_4_6 fun t22_27 =>
  FAd 4 s_1_1 fun t23_28 =>
  LdC (At w_26) t23_28 fun t24_29 =>
  LdC (At w_26) w_4_6 fun t25_30 =>
  CallF Try.prog 69 #[t22_27, t24_29, (.func (.func 34) #[t25_30] #[])] w_26 fun t27_31 w_32 =>
  LdC (At w_32) w_4_6 fun t28_33 =>
  FAd 5 s_1_1 fun t29_34 =>
  LdC (At w_32) t29_34 fun t30_35 =>
  LdC (At w_32) w_4_6 fun t31_36 =>
  CallF Try.prog 70 #[t28_33, t30_35, (.func (.func 35) #[t31_36] #[])] w_32 fun t33_37 w_38 =>
  LdC (At w_38) w_4_6 fun t34_39 =>
  FAd 6 s_1_1 fun t35_40 =>
  LdC (At w_38) t35_40 fun t36_41 =>
  LdC (At w_38) w_4_6 fun t37_42 =>
  CallF Try.prog 62 #[t34_39, t36_41, (.func (.func 63) #[t37_42] #[])] w_38 fun t39_43 w_44 =>
  LdC (At w_44) w_4_6 fun t40_45 =>
  FAd 7 s_1_1 fun t41_46 =>
  LdC (At w_44) t41_46 fun t42_47 =>
  CallF Try.prog 71 #[t40_45, t42_47, (.func (.func 72) #[] #[w_4_6])] w_44 fun t44_48 w_49 =>
  LdC (At w_49) w_4_6 fun t45_50 =>
  CallF Try.prog 36 #[t45_50] w_49 fun t46_51 w_52 =>
  Ext t46_51 0 fun t47_53 =>
  Ext t46_51 1 fun t48_54 =>
  R (.tuple #[t47_53, t48_54]) w_52
theorem C_command_EncodeState_ent : Ent Try.prog 27 := ⟨_, Try.func27, by decide, rfl⟩
theorem C_command_EncodeState_link {x0 : Value} {w : World} {R : Value → World → Prop} (h : C_command_EncodeState x0 w R) : CallF Try.prog 27 #[x0] w R :=
  callF_vFun (L := [0, 1, 2, 3, 4]) (args := [x0]) C_command_EncodeState_ent Try.func27 rfl (Eq.mp (show (C_command_EncodeState x0 w R) = vFun Try.prog Try.f27 [0, 1, 2, 3, 4] [x0] w R by kernel_rfl) h)

/-- furlong/furlongref10.State: function 28 -/
def C_furlongref10_State (x0 : Value) (w : World) (R : Value → World → Prop) : Prop :=
  Do Try.prog (Instr.box 58 x0) w fun s_1_1 w_2 =>
  FAd 3 s_1_1 fun t16_3 =>
  LdC (At w_2) t16_3 fun t17_4 =>
  Len t17_4 fun t18_5 =>
  Bin Try.prog (At w_2) .gtr 3 false true t18_5 (.int .i64 1024) fun t19_6 =>
  GdP (isB t19_6 false) (fun R => FAd 4 s_1_1 R) fun t21_7 =>
  GdP (isB t19_6 false) (fun R => LdC (At w_2) t21_7 R) fun t22_8 =>
  GdP (isB t19_6 false) (fun R => Len t22_8 R) fun t23_9 =>
  GdP (isB t19_6 false) (fun R => Bin Try.prog (At w_2) .gtr 3 false true t23_9 (.int .i64 1024) R) fun t24_10 =>
  Pick t19_6 (.bool true) t24_10 fun t25_11 =>
  GdP (isB t25_11 false) (fun R => FAd 5 s_1_1 R) fun t27_12 =>
  GdP (isB t25_11 false) (fun R => LdC (At w_2) t27_12 R) fun t28_13 =>
  GdP (isB t25_11 false) (fun R => Len t28_13 R) fun t29_14 =>
  GdP (isB t25_11 false) (fun R => Bin Try.prog (At w_2) .gtr 3 false true t29_14 (.int .i64 1024) R) fun t30_15 =>
  Pick t25_11 (.bool true) t30_15 fun t31_16 =>
  GdP (isB t31_16 false) (fun R => FAd 7 s_1_1 R) fun t33_17 =>
  GdP (isB t31_16 false) (fun R => LdC (At w_2) t33_17 R) fun t34_18 =>
  GdP (isB t31_16 false) (fun R => Len t34_18 R) fun t35_19 =>
  GdP (isB t31_16 false) (fun R => Bin Try.prog (At w_2) .gtr 3 false true t35_19 (.int .i64 1024) R) fun t36_20 =>
  Pick t31_16 (.bool true) t36_20 fun t37_21 =>
  GdP (isB t37_21 false) (fun R => FAd 6 s_1_1 R) fun t39_22 =>
  GdP (isB t37_21 false) (fun R => LdC (At w_2) t39_22 R) fun t40_23 =>
  Gd (isB t37_21 false) (fun R => CallF Try.prog 64 #[t40_23] w_2 R) w_2 fun t41_24 w_25 =>
  GdP (isB t37_21 false) (fun R => Un Try.prog (At w_25) .not t41_24 R) fun t42_26 =>
  Pick t37_21 (.bool true) t42_26 fun t43_27 =>
  FAd 5 s_1_1 fun t44_28 =>
  LdC (At w_25) t44_28 fun t45_29 =>
  Len t45_29 fun t46_30 =>
  ∃ (I_31 : Nat → Value → Value → World → Prop) (m_32 : Nat), I_31 m_32 t43_27 (.int .i64 0) w_25 ∧
  ∀ m_33, ∀ long_4_34, ∀ t47_35, ∀ w_36, I_31 m_33 long_4_34 t47_35 w_36 →
   Bin Try.prog (At w_36) .lss 3 false false t47_35 t46_30 fun t48_37 =>
   If t48_37 (
    IAdS 7 t45_29 t47_35 fun t49_38 =>
    LdA (At w_36) 7 t49_38 fun t50_39 =>
    Do Try.prog (Instr.alloc 30 true (.tuple #[])) w_36 fun t_6_40 w_41 =>
    DoU Try.prog (Instr.storeAt 30 t_6_40 t50_39) w_41 fun u_42 w_43 =>
    GdP (isB long_4_34 false) (fun R => FAd 5 t_6_40 R) fun t53_44 =>
    GdP (isB long_4_34 false) (fun R => LdC (At w_43) t53_44 R) fun t54_45 =>
    GdP (isB long_4_34 false) (fun R => Len t54_45 R) fun t55_46 =>
    GdP (isB long_4_34 false) (fun R => Bin Try.prog (At w_43) .gtr 3 false true t55_46 (.int .i64 1024) R) fun t56_47 =>
    Pick long_4_34 (.bool true) t56_47 fun t57_48 =>
    Bin Try.prog (At w_43) .add 3 false true t47_35 (.int .i64 1) fun t58_49 =>
    ∃ m_50, m_50 < m_33 ∧
    I_31 m_50 t57_48 t58_49 w_43) (
    If long_4_34 (
     R (.tuple #[(.slice none 0 0), (.int .i64 3)]) w_36) (
     FAd 0 s_1_1 fun t60_51 =>
     LdC (At w_36) t60_51 fun t61_52 =>
     FAd 1 s_1_1 fun t62_53 =>
     LdC (At w_36) t62_53 fun t63_54 =>
     FAd 2 s_1_1 fun t64_55 =>
     LdC (At w_36) t64_55 fun t65_56 =>
     Do Try.prog (Instr.buildSlice 81 3 #[(0, t61_52), (1, t63_54), (2, t65_56)]) w_36 fun t66_57 w_58 =>
     CallF Try.prog 37 #[(.slice none 0 0), t66_57] w_58 fun t67_59 w_60 =>
     FAd 3 s_1_1 fun t69_61 =>
     LdC (At w_60) t69_61 fun t70_62 =>
     Len t70_62 fun t71_63 =>
     CallF Try.prog 73 #[t71_63] w_60 fun t72_64 w_65 =>
     Do Try.prog (Builtin.append_ #[37, 37] 37 #[t67_59, t72_64]) w_65 fun t73_66 w_67 =>
     FAd 3 s_1_1 fun t74_68 =>
     LdC (At w_67) t74_68 fun t75_69 =>
     Len t75_69 fun t76_70 =>
     ∃ (I_71 : Nat → Value → Value → World → Prop) (m_72 : Nat), I_71 m_72 t73_66 (.int .i64 0) w_67 ∧
     ∀ m_73, ∀ b_7_74, ∀ t77_75, ∀ w_76, I_71 m_73 b_7_74 t77_75 w_76 →
      Bin Try.prog (At w_76) .lss 3 false false t77_75 t76_70 fun t78_77 =>
      If t78_77 (
       IAdS 7 t75_69 t77_75 fun t79_78 =>
       LdA (At w_76) 7 t79_78 fun t80_79 =>
       Do Try.prog (Instr.alloc 25 true (.tuple #[])) w_76 fun q_9_80 w_81 =>
       DoU Try.prog (Instr.storeAt 25 q_9_80 t80_79) w_81 fun u_82 w_83 =>
       LdA (At w_83) 7 q_9_80 fun t82_84 =>
       CallF Try.prog 39 #[t82_84] w_83 fun t83_85 w_86 =>
       CallF Try.prog 37 #[b_7_74, t83_85] w_86 fun t84_87 w_88 =>
       Bin Try.prog (At w_88) .add 3 false true t77_75 (.int .i64 1) fun t85_89 =>
       ∃ m_90, m_90 < m_73 ∧
       I_71 m_90 t84_87 t85_89 w_88) (
       FAd 4 s_1_1 fun t87_91 =>
       LdC (At w_76) t87_91 fun t88_92 =>
       Len t88_92 fun t89_93 =>
       CallF Try.prog 73 #[t89_93] w_76 fun t90_94 w_95 =>
       Do Try.prog (Builtin.append_ #[37, 37] 37 #[b_7_74, t90_94]) w_95 fun t91_96 w_97 =>
       FAd 4 s_1_1 fun t92_98 =>
       LdC (At w_97) t92_98 fun t93_99 =>
       Len t93_99 fun t94_100 =>
       ∃ (I_101 : Nat → Value → Value → World → Prop) (m_102 : Nat), I_101 m_102 t91_96 (.int .i64 0) w_97 ∧
       ∀ m_103, ∀ b_7_104, ∀ t95_105, ∀ w_106, I_101 m_103 b_7_104 t95_105 w_106 →
        Bin Try.prog (At w_106) .lss 3 false false t95_105 t94_100 fun t96_107 =>
        If t96_107 (
         IAdS 5 t93_99 t95_105 fun t97_108 =>
         LdA (At w_106) 5 t97_108 fun t98_109 =>
         Do Try.prog (Instr.alloc 27 true (.tuple #[])) w_106 fun n_11_110 w_111 =>
         DoU Try.prog (Instr.storeAt 27 n_11_110 t98_109) w_111 fun u_112 w_113 =>
         LdA (At w_113) 5 n_11_110 fun t100_114 =>
         CallF Try.prog 40 #[t100_114] w_113 fun t101_115 w_116 =>
         CallF Try.prog 37 #[b_7_104, t101_115] w_116 fun t102_117 w_118 =>
         Bin Try.prog (At w_118) .add 3 false true t95_105 (.int .i64 1) fun t103_119 =>
         ∃ m_120, m_120 < m_103 ∧
         I_101 m_120 t102_117 t103_119 w_118) (
         FAd 5 s_1_1 fun t105_121 =>
         LdC (At w_106) t105_121 fun t106_122 =>
         Len t106_122 fun t107_123 =>
         CallF Try.prog 73 #[t107_123] w_106 fun t108_124 w_125 =>
         Do Try.prog (Builtin.append_ #[37, 37] 37 #[b_7_104, t108_124]) w_125 fun t109_126 w_127 =>
         FAd 5 s_1_1 fun t110_128 =>
         LdC (At w_127) t110_128 fun t111_129 =>
         Len t111_129 fun t112_130 =>
         ∃ (I_131 : Nat → Value → Value → World → Prop) (m_132 : Nat), I_131 m_132 t109_126 (.int .i64 0) w_127 ∧
         ∀ m_133, ∀ b_7_134, ∀ t113_135, ∀ w_136, I_131 m_133 b_7_134 t113_135 w_136 →
          Bin Try.prog (At w_136) .lss 3 false false t113_135 t112_130 fun t114_137 =>
          If t114_137 (
           IAdS 7 t111_129 t113_135 fun t115_138 =>
           LdA (At w_136) 7 t115_138 fun t116_139 =>
           Do Try.prog (Instr.alloc 30 true (.tuple #[])) w_136 fun t_13_140 w_141 =>
           DoU Try.prog (Instr.storeAt 30 t_13_140 t116_139) w_141 fun u_142 w_143 =>
           LdA (At w_143) 7 t_13_140 fun t118_144 =>
           CallF Try.prog 41 #[t118_144] w_143 fun t119_145 w_146 =>
           Do Try.prog (Builtin.append_ #[37, 37] 37 #[b_7_134, t119_145]) w_146 fun t120_147 w_148 =>
           Bin Try.prog (At w_148) .add 3 false true t113_135 (.int .i64 1) fun t121_149 =>
           ∃ m_150, m_150 < m_133 ∧
           I_131 m_150 t120_147 t121_149 w_148) (
           FAd 6 s_1_1 fun t123_151 =>
           LdC (At w_136) t123_151 fun t124_152 =>
           CallF Try.prog 66 #[t124_152] w_136 fun t125_153 w_154 =>
           Do Try.prog (Builtin.append_ #[37, 37] 37 #[b_7_134, t125_153]) w_154 fun t126_155 w_156 =>
           FAd 7 s_1_1 fun t128_157 =>
           LdC (At w_156) t128_157 fun t129_158 =>
           Len t129_158 fun t130_159 =>
           CallF Try.prog 73 #[t130_159] w_156 fun t131_160 w_161 =>
           Do Try.prog (Builtin.append_ #[37, 37] 37 #[t126_155, t131_160]) w_161 fun t132_162 w_163 =>
           FAd 7 s_1_1 fun t133_164 =>
           LdC (At w_163) t133_164 fun t134_165 =>
           Len t134_165 fun t135_166 =>
           ∃ (I_167 : Nat → Value → Value → World → Prop) (m_168 : Nat), I_167 m_168 t132_162 (.int .i64 0) w_163 ∧
           ∀ m_169, ∀ b_7_170, ∀ t136_171, ∀ w_172, I_167 m_169 b_7_170 t136_171 w_172 →
            Bin Try.prog (At w_172) .lss 3 false false t136_171 t135_166 fun t137_173 =>
            If t137_173 (
             IAdS 2 t134_165 t136_171 fun t138_174 =>
             LdA (At w_172) 2 t138_174 fun t139_175 =>
             Do Try.prog (Instr.alloc 119 true (.tuple #[])) w_172 fun h_15_176 w_177 =>
             DoU Try.prog (Instr.storeAt 119 h_15_176 t139_175) w_177 fun u_178 w_179 =>
             FAd 0 h_15_176 fun t141_180 =>
             LdC (At w_179) t141_180 fun t142_181 =>
             FAd 1 h_15_176 fun t143_182 =>
             LdC (At w_179) t143_182 fun t144_183 =>
             Do Try.prog (Instr.buildSlice 81 2 #[(0, t142_181), (1, t144_183)]) w_179 fun t145_184 w_185 =>
             CallF Try.prog 37 #[b_7_170, t145_184] w_185 fun t146_186 w_187 =>
             Bin Try.prog (At w_187) .add 3 false true t136_171 (.int .i64 1) fun t147_188 =>
             ∃ m_189, m_189 < m_169 ∧
             I_167 m_189 t146_186 t147_188 w_187) (
             R (.tuple #[b_7_170, (.int .i64 0)]) w_172))))))
theorem C_furlongref10_State_ent : Ent Try.prog 28 := ⟨_, Try.func28, by decide, rfl⟩
theorem C_furlongref10_State_link {x0 : Value} {w : World} {R : Value → World → Prop} (h : C_furlongref10_State x0 w R) : CallF Try.prog 28 #[x0] w R :=
  callF_vFun (L := [0, 1, 2, 3, 4, 6, 7, 9, 11, 13, 15, 45, 46, 47, 48, 59, 75, 76, 77, 78, 93, 94, 95, 96, 111, 112, 113, 114, 134, 135, 136, 137]) (args := [x0]) C_furlongref10_State_ent Try.func28 rfl (Eq.mp (show (C_furlongref10_State x0 w R) = vFun Try.prog Try.f28 [0, 1, 2, 3, 4, 6, 7, 9, 11, 13, 15, 45, 46, 47, 48, 59, 75, 76, 77, 78, 93, 94, 95, 96, 111, 112, 113, 114, 134, 135, 136, 137] [x0] w R by kernel_rfl) h)

/-- furlong/furlonglaw10.written: function 29 -/
def C_furlonglaw10_written (x0 : Value) (w : World) (R : Value → World → Prop) : Prop :=
  CallF Try.prog 16 #[x0] w fun t20_1 w_2 =>
  Ext t20_1 0 fun t21_3 =>
  Ext t20_1 1 fun t22_4 =>
  Ext t20_1 2 fun t23_5 =>
  Do Try.prog (Instr.alloc 34 true (.tuple #[])) w_2 fun x_3_6 w_7 =>
  DoU Try.prog (Instr.storeAt 34 x_3_6 t21_3) w_7 fun u_8 w_9 =>
  Bin Try.prog (At w_9) .eql 38 false true t23_5 (.int .i64 0) fun t25_10 =>
  ∃ J_11 : Value → World → Prop,
  (∀ t2_12, ∀ w_13, J_11 t2_12 w_13 → (
   CallF Try.prog 18 #[x0] w_13 fun t41_14 w_15 =>
   Ext t41_14 0 fun t42_16 =>
   Ext t41_14 1 fun t43_17 =>
   Ext t41_14 2 fun t44_18 =>
   Do Try.prog (Instr.alloc 49 true (.tuple #[])) w_15 fun x_8_19 w_20 =>
   DoU Try.prog (Instr.storeAt 49 x_8_19 t42_16) w_20 fun u_21 w_22 =>
   Bin Try.prog (At w_22) .eql 38 false true t44_18 (.int .i64 0) fun t46_23 =>
   ∃ J_24 : Value → World → Prop,
   (∀ t2_25, ∀ w_26, J_24 t2_25 w_26 → (
    CallF Try.prog 21 #[x0] w_26 fun t62_27 w_28 =>
    Ext t62_27 0 fun t63_29 =>
    Ext t62_27 1 fun t64_30 =>
    Ext t62_27 2 fun t65_31 =>
    Do Try.prog (Instr.alloc 58 true (.tuple #[])) w_28 fun x_13_32 w_33 =>
    DoU Try.prog (Instr.storeAt 58 x_13_32 t63_29) w_33 fun u_34 w_35 =>
    Bin Try.prog (At w_35) .eql 38 false true t65_31 (.int .i64 0) fun t67_36 =>
    ∃ J_37 : Value → World → Prop,
    (∀ t2_38, ∀ w_39, J_37 t2_38 w_39 → (
     R (.bool true) w_39)) ∧
    If t67_36 (
     LdA (At w_35) 8 x_13_32 fun t69_40 =>
     CallF Try.prog 27 #[t69_40] w_35 fun t70_41 w_42 =>
     Ext t70_41 0 fun t71_43 =>
     Ext t70_41 1 fun t72_44 =>
     Bin Try.prog (At w_42) .neq 38 false true t72_44 (.int .i64 0) fun t74_45 =>
     GdP (isB t74_45 false) (fun R => R t71_43) fun t76_46 =>
     GdP (isB t74_45 false) (fun R => R x0) fun t77_47 =>
     Gd (isB t74_45 false) (fun R => CallF Try.prog 14 #[t76_46, t77_47] w_42 R) w_42 fun t78_48 w_49 =>
     GdP (isB t74_45 false) (fun R => Un Try.prog (At w_49) .not t78_48 R) fun t79_50 =>
     Pick t74_45 (.bool true) t79_50 fun t80_51 =>
     If t80_51 (
      R (.bool false) w_49) (
      J_37 t2_25 w_49)) (
     J_37 t2_25 w_35))) ∧
   If t46_23 (
    LdA (At w_22) 5 x_8_19 fun t48_52 =>
    CallF Try.prog 24 #[t48_52] w_22 fun t49_53 w_54 =>
    Ext t49_53 0 fun t50_55 =>
    Ext t49_53 1 fun t51_56 =>
    Bin Try.prog (At w_54) .neq 38 false true t51_56 (.int .i64 0) fun t53_57 =>
    GdP (isB t53_57 false) (fun R => R t50_55) fun t55_58 =>
    GdP (isB t53_57 false) (fun R => R x0) fun t56_59 =>
    Gd (isB t53_57 false) (fun R => CallF Try.prog 14 #[t55_58, t56_59] w_54 R) w_54 fun t57_60 w_61 =>
    GdP (isB t53_57 false) (fun R => Un Try.prog (At w_61) .not t57_60 R) fun t58_62 =>
    Pick t53_57 (.bool true) t58_62 fun t59_63 =>
    If t59_63 (
     R (.bool false) w_61) (
     J_24 t2_12 w_61)) (
    J_24 t2_12 w_22))) ∧
  If t25_10 (
   LdA (At w_9) 27 x_3_6 fun t27_64 =>
   CallF Try.prog 12 #[t27_64] w_9 fun t28_65 w_66 =>
   Ext t28_65 0 fun t29_67 =>
   Ext t28_65 1 fun t30_68 =>
   Bin Try.prog (At w_66) .neq 38 false true t30_68 (.int .i64 0) fun t32_69 =>
   GdP (isB t32_69 false) (fun R => R t29_67) fun t34_70 =>
   GdP (isB t32_69 false) (fun R => R x0) fun t35_71 =>
   Gd (isB t32_69 false) (fun R => CallF Try.prog 14 #[t34_70, t35_71] w_66 R) w_66 fun t36_72 w_73 =>
   GdP (isB t32_69 false) (fun R => Un Try.prog (At w_73) .not t36_72 R) fun t37_74 =>
   Pick t32_69 (.bool true) t37_74 fun t38_75 =>
   If t38_75 (
    R (.bool false) w_73) (
    J_11 (.bool false) w_73)) (
   J_11 (.bool false) w_9)
theorem C_furlonglaw10_written_ent : Ent Try.prog 29 := ⟨_, Try.func29, by decide, rfl⟩
theorem C_furlonglaw10_written_link {x0 : Value} {w : World} {R : Value → World → Prop} (h : C_furlonglaw10_written x0 w R) : CallF Try.prog 29 #[x0] w R :=
  callF_vFun (L := [0, 2, 3, 5, 6, 7, 8, 10, 11, 12, 13, 15, 16, 17, 25, 38, 46, 59, 67, 80]) (args := [x0]) C_furlonglaw10_written_ent Try.func29 rfl (Eq.mp (show (C_furlonglaw10_written x0 w R) = vFun Try.prog Try.f29 [0, 2, 3, 5, 6, 7, 8, 10, 11, 12, 13, 15, 16, 17, 25, 38, 46, 59, 67, 80] [x0] w R by kernel_rfl) h)

/-- furlong/furlongref10.TwinTask: function 30 -/
def C_furlongref10_TwinTask (x0 : Value) (w : World) (R : Value → World → Prop) : Prop :=
  Do Try.prog (Instr.box 30 x0) w fun t_1_1 w_2 =>
  Do Try.prog (Instr.alloc 30 true (.tuple #[])) w_2 fun t2_3 w_4 =>
  Do Try.prog (Instr.buildSlice 28 0 #[]) w_4 fun t3_5 w_6 =>
  FAd 5 t_1_1 fun t4_7 =>
  LdC (At w_6) t4_7 fun t5_8 =>
  Do Try.prog (Builtin.append_ #[28, 28] 28 #[t3_5, t5_8]) w_6 fun t6_9 w_10 =>
  FAd 5 t_1_1 fun t7_11 =>
  DoU Try.prog (Instr.storeAt 28 t7_11 t6_9) w_10 fun u_12 w_13 =>
  LdA (At w_13) 7 t_1_1 fun t8_14 =>
  DoU Try.prog (Instr.storeAt 30 t2_3 t8_14) w_13 fun u_15 w_16 =>
  LdA (At w_16) 7 t2_3 fun r_17 =>
  R r_17 w_16
theorem C_furlongref10_TwinTask_ent : Ent Try.prog 30 := ⟨_, Try.func30, by decide, rfl⟩
theorem C_furlongref10_TwinTask_link {x0 : Value} {w : World} {R : Value → World → Prop} (h : C_furlongref10_TwinTask x0 w R) : CallF Try.prog 30 #[x0] w R :=
  callF_vFun (L := [0, 1, 2]) (args := [x0]) C_furlongref10_TwinTask_ent Try.func30 rfl (Eq.mp (show (C_furlongref10_TwinTask x0 w R) = vFun Try.prog Try.f30 [0, 1, 2] [x0] w R by kernel_rfl) h)

/-- (*furlong/command.writer).int: function 31 -/
def C_command_writer_int (x0 : Value) (x1 : Value) (w : World) (R : Value → World → Prop) : Prop :=
  Len x1 fun t7_1 =>
  ∃ (I_2 : Nat → Value → World → Prop) (m_3 : Nat), I_2 m_3 (.int .i64 0) w ∧
  ∀ m_4, ∀ t8_5, ∀ w_6, I_2 m_4 t8_5 w_6 →
   Bin Try.prog (At w_6) .lss 3 false false t8_5 t7_1 fun t9_7 =>
   If t9_7 (
    IAdS 1 x1 t8_5 fun t10_8 =>
    LdC (At w_6) t10_8 fun t11_9 =>
    ∃ S_10 : World → Prop, S_10 (World.drew w_6) ∧
    NilC x0 fun t14_11 =>
    FAd 0 t14_11 fun t15_12 =>
    LdC S_10 t15_12 fun t16_13 =>
    CallF Try.prog 74 #[(.slice none 0 0), t11_9] (World.drew w_6) fun t18_14 w_15 =>
    S_10 w_15 ∧
    Do Try.prog (Builtin.append_ #[37, 37] 37 #[t16_13, t18_14]) w_15 fun t19_16 w_17 =>
    NilC x0 fun t20_18 =>
    FAd 0 t20_18 fun t21_19 =>
    DoU Try.prog (Instr.storeAt 37 t21_19 t19_16) w_17 fun u_20 w_21 =>
    Bin Try.prog (At w_21) .add 3 false true t8_5 (.int .i64 1) fun t22_22 =>
    ∃ m_23, m_23 < m_4 ∧
    I_2 m_23 t22_22 w_21) (
    R (.tuple #[]) w_6)
theorem C_command_writer_int_ent : Ent Try.prog 31 := ⟨_, Try.func31, by decide, rfl⟩
theorem C_command_writer_int_link {x0 x1 : Value} {w : World} {R : Value → World → Prop} (h : C_command_writer_int x0 x1 w R) : CallF Try.prog 31 #[x0, x1] w R :=
  callF_vFun (L := [0, 1, 5, 6, 7, 8, 9]) (args := [x0, x1]) C_command_writer_int_ent Try.func31 rfl (Eq.mp (show (C_command_writer_int x0 x1 w R) = vFun Try.prog Try.f31 [0, 1, 5, 6, 7, 8, 9] [x0, x1] w R by kernel_rfl) h)

/-- (*furlong/command.writer).uint: function 32 -/
def C_command_writer_uint (x0 : Value) (x1 : Value) (w : World) (R : Value → World → Prop) : Prop :=
  ∃ S_1 : World → Prop, S_1 (World.drew w) ∧
  NilC x0 fun t6_2 =>
  FAd 0 t6_2 fun t7_3 =>
  LdC S_1 t7_3 fun t8_4 =>
  CallF Try.prog 75 #[(.slice none 0 0), x1] (World.drew w) fun t10_5 w_6 =>
  S_1 w_6 ∧
  Do Try.prog (Builtin.append_ #[37, 37] 37 #[t8_4, t10_5]) w_6 fun t11_7 w_8 =>
  NilC x0 fun t12_9 =>
  FAd 0 t12_9 fun t13_10 =>
  DoU Try.prog (Instr.storeAt 37 t13_10 t11_7) w_8 fun u_11 w_12 =>
  R (.tuple #[]) w_12
theorem C_command_writer_uint_ent : Ent Try.prog 32 := ⟨_, Try.func32, by decide, rfl⟩
theorem C_command_writer_uint_link {x0 x1 : Value} {w : World} {R : Value → World → Prop} (h : C_command_writer_uint x0 x1 w R) : CallF Try.prog 32 #[x0, x1] w R :=
  callF_vFun (L := [0, 1]) (args := [x0, x1]) C_command_writer_uint_ent Try.func32 rfl (Eq.mp (show (C_command_writer_uint x0 x1 w R) = vFun Try.prog Try.f32 [0, 1] [x0, x1] w R by kernel_rfl) h)

/-- (*furlong/command.writer).queue: function 33 -/
def C_command_writer_queue (x0 : Value) (x1 : Value) (w : World) (R : Value → World → Prop) : Prop :=
  Do Try.prog (Instr.box 25 x1) w fun q_3_1 w_2 =>
  FAd 0 q_3_1 fun t5_3 =>
  LdC (At w_2) t5_3 fun t6_4 =>
  FAd 1 q_3_1 fun t7_5 =>
  LdC (At w_2) t7_5 fun t8_6 =>
  FAd 2 q_3_1 fun t9_7 =>
  LdC (At w_2) t9_7 fun t10_8 =>
  FAd 3 q_3_1 fun t11_9 =>
  FAd 0 t11_9 fun t12_10 =>
  LdC (At w_2) t12_10 fun t13_11 =>
  FAd 3 q_3_1 fun t14_12 =>
  FAd 1 t14_12 fun t15_13 =>
  LdC (At w_2) t15_13 fun t16_14 =>
  FAd 5 q_3_1 fun t17_15 =>
  FAd 0 t17_15 fun t18_16 =>
  LdC (At w_2) t18_16 fun t19_17 =>
  FAd 5 q_3_1 fun t20_18 =>
  FAd 1 t20_18 fun t21_19 =>
  LdC (At w_2) t21_19 fun t22_20 =>
  Do Try.prog (Instr.buildSlice 81 7 #[(0, t6_4), (1, t8_6), (2, t10_8), (3, t13_11), (4, t16_14), (5, t19_17), (6, t22_20)]) w_2 fun t23_21 w_22 =>
  CallF Try.prog 31 #[x0, t23_21] w_22 fun t24_23 w_24 =>
  R (.tuple #[]) w_24
theorem C_command_writer_queue_ent : Ent Try.prog 33 := ⟨_, Try.func33, by decide, rfl⟩
theorem C_command_writer_queue_link {x0 x1 : Value} {w : World} {R : Value → World → Prop} (h : C_command_writer_queue x0 x1 w R) : CallF Try.prog 33 #[x0, x1] w R :=
  callF_vFun (L := [0, 1, 3]) (args := [x0, x1]) C_command_writer_queue_ent Try.func33 rfl (Eq.mp (show (C_command_writer_queue x0 x1 w R) = vFun Try.prog Try.f33 [0, 1, 3] [x0, x1] w R by kernel_rfl) h)

/-- (*furlong/command.writer).node: function 34 -/
def C_command_writer_node (x0 : Value) (x1 : Value) (w : World) (R : Value → World → Prop) : Prop :=
  Do Try.prog (Instr.box 27 x1) w fun n_3_1 w_2 =>
  FAd 0 n_3_1 fun t5_3 =>
  LdC (At w_2) t5_3 fun t6_4 =>
  FAd 1 n_3_1 fun t7_5 =>
  LdC (At w_2) t7_5 fun t8_6 =>
  FAd 2 n_3_1 fun t9_7 =>
  LdC (At w_2) t9_7 fun t10_8 =>
  FAd 3 n_3_1 fun t11_9 =>
  LdC (At w_2) t11_9 fun t12_10 =>
  FAd 4 n_3_1 fun t13_11 =>
  LdC (At w_2) t13_11 fun t14_12 =>
  Do Try.prog (Instr.buildSlice 81 5 #[(0, t6_4), (1, t8_6), (2, t10_8), (3, t12_10), (4, t14_12)]) w_2 fun t15_13 w_14 =>
  CallF Try.prog 31 #[x0, t15_13] w_14 fun t16_15 w_16 =>
  R (.tuple #[]) w_16
theorem C_command_writer_node_ent : Ent Try.prog 34 := ⟨_, Try.func34, by decide, rfl⟩
theorem C_command_writer_node_link {x0 x1 : Value} {w : World} {R : Value → World → Prop} (h : C_command_writer_node x0 x1 w R) : CallF Try.prog 34 #[x0, x1] w R :=
  callF_vFun (L := [0, 1, 3]) (args := [x0, x1]) C_command_writer_node_ent Try.func34 rfl (Eq.mp (show (C_command_writer_node x0 x1 w R) = vFun Try.prog Try.f34 [0, 1, 3] [x0, x1] w R by kernel_rfl) h)

/-- (*furlong/command.writer).task: function 35 -/
def C_command_writer_task (x0 : Value) (x1 : Value) (w : World) (R : Value → World → Prop) : Prop :=
  Do Try.prog (Instr.box 30 x1) w fun t_3_1 w_2 =>
  FAd 0 t_3_1 fun t5_3 =>
  LdC (At w_2) t5_3 fun t6_4 =>
  FAd 1 t_3_1 fun t7_5 =>
  LdC (At w_2) t7_5 fun t8_6 =>
  FAd 2 t_3_1 fun t9_7 =>
  FAd 0 t9_7 fun t10_8 =>
  LdC (At w_2) t10_8 fun t11_9 =>
  FAd 2 t_3_1 fun t12_10 =>
  FAd 1 t12_10 fun t13_11 =>
  LdC (At w_2) t13_11 fun t14_12 =>
  FAd 4 t_3_1 fun t15_13 =>
  LdC (At w_2) t15_13 fun t16_14 =>
  Do Try.prog (Instr.buildSlice 81 5 #[(0, t6_4), (1, t8_6), (2, t11_9), (3, t14_12), (4, t16_14)]) w_2 fun t17_15 w_16 =>
  CallF Try.prog 31 #[x0, t17_15] w_16 fun t18_17 w_18 =>
  FAd 5 t_3_1 fun t20_19 =>
  LdC (At w_18) t20_19 fun t21_20 =>
  CallF Try.prog 61 #[x0, t21_20] w_18 fun t22_21 w_22 =>
  FAd 6 t_3_1 fun t24_23 =>
  LdC (At w_22) t24_23 fun t25_24 =>
  Do Try.prog (Instr.buildSlice 81 1 #[(0, t25_24)]) w_22 fun t26_25 w_26 =>
  CallF Try.prog 31 #[x0, t26_25] w_26 fun t27_27 w_28 =>
  R (.tuple #[]) w_28
theorem C_command_writer_task_ent : Ent Try.prog 35 := ⟨_, Try.func35, by decide, rfl⟩
theorem C_command_writer_task_link {x0 x1 : Value} {w : World} {R : Value → World → Prop} (h : C_command_writer_task x0 x1 w R) : CallF Try.prog 35 #[x0, x1] w R :=
  callF_vFun (L := [0, 1, 3]) (args := [x0, x1]) C_command_writer_task_ent Try.func35 rfl (Eq.mp (show (C_command_writer_task x0 x1 w R) = vFun Try.prog Try.f35 [0, 1, 3] [x0, x1] w R by kernel_rfl) h)

/-- (*furlong/command.writer).done: function 36 -/
def C_command_writer_done (x0 : Value) (w : World) (R : Value → World → Prop) : Prop :=
  NilC x0 fun t5_1 =>
  FAd 1 t5_1 fun t6_2 =>
  LdC (At w) t6_2 fun t7_3 =>
  Bin Try.prog (At w) .neq 38 false true t7_3 (.int .i64 0) fun t8_4 =>
  If t8_4 (
   ∃ S_5 : World → Prop, S_5 (World.drew w) ∧
   NilC x0 fun t10_6 =>
   FAd 1 t10_6 fun t11_7 =>
   LdC S_5 t11_7 fun t12_8 =>
   R (.tuple #[(.slice none 0 0), t12_8]) (World.drew w)) (
   NilC x0 fun t14_9 =>
   FAd 0 t14_9 fun t15_10 =>
   LdC (At w) t15_10 fun t16_11 =>
   R (.tuple #[t16_11, (.int .i64 0)]) w)
theorem C_command_writer_done_ent : Ent Try.prog 36 := ⟨_, Try.func36, by decide, rfl⟩
theorem C_command_writer_done_link {x0 : Value} {w : World} {R : Value → World → Prop} (h : C_command_writer_done x0 w R) : CallF Try.prog 36 #[x0] w R :=
  callF_vFun (L := [0, 2, 3, 8]) (args := [x0]) C_command_writer_done_ent Try.func36 rfl (Eq.mp (show (C_command_writer_done x0 w R) = vFun Try.prog Try.f36 [0, 2, 3, 8] [x0] w R by kernel_rfl) h)

/-- furlong/furlongref10.put: function 37 -/
def C_furlongref10_put (x0 : Value) (x1 : Value) (w : World) (R : Value → World → Prop) : Prop :=
  Len x1 fun t8_1 =>
  ∃ (I_2 : Nat → Value → Value → World → Prop) (m_3 : Nat), I_2 m_3 x0 (.int .i64 0) w ∧
  ∀ m_4, ∀ b_0_5, ∀ t9_6, ∀ w_7, I_2 m_4 b_0_5 t9_6 w_7 →
   Bin Try.prog (At w_7) .lss 3 false false t9_6 t8_1 fun t10_8 =>
   If t10_8 (
    IAdS 1 x1 t9_6 fun t11_9 =>
    LdC (At w_7) t11_9 fun t12_10 =>
    CallF Try.prog 76 #[t12_10] w_7 fun t15_11 w_12 =>
    Do Try.prog (Builtin.append_ #[37, 37] 37 #[b_0_5, t15_11]) w_12 fun t16_13 w_14 =>
    Bin Try.prog (At w_14) .add 3 false true t9_6 (.int .i64 1) fun t17_15 =>
    ∃ m_16, m_16 < m_4 ∧
    I_2 m_16 t16_13 t17_15 w_14) (
    R b_0_5 w_7)
theorem C_furlongref10_put_ent : Ent Try.prog 37 := ⟨_, Try.func37, by decide, rfl⟩
theorem C_furlongref10_put_link {x0 x1 : Value} {w : World} {R : Value → World → Prop} (h : C_furlongref10_put x0 x1 w R) : CallF Try.prog 37 #[x0, x1] w R :=
  callF_vFun (L := [0, 1, 4, 6, 7, 8, 9, 10]) (args := [x0, x1]) C_furlongref10_put_ent Try.func37 rfl (Eq.mp (show (C_furlongref10_put x0 x1 w R) = vFun Try.prog Try.f37 [0, 1, 4, 6, 7, 8, 9, 10] [x0, x1] w R by kernel_rfl) h)

/-- furlong/furlongref03.Num: function 38 -/
def C_furlongref03_Num (x0 : Value) (w : World) (R : Value → World → Prop) : Prop :=
  Bin Try.prog (At w) .lss 75 false true x0 (.int .u64 192) fun t9_1 =>
  If t9_1 (
   ConvI .u8 x0 fun t11_2 =>
   Do Try.prog (Instr.buildSlice 37 1 #[(0, t11_2)]) w fun t12_3 w_4 =>
   R t12_3 w_4) (
   ∃ (I_5 : Nat → Value → Value → Value → World → Prop) (m_6 : Nat), I_5 m_6 (.int .u64 192) (.int .u64 256) (.int .i64 1) w ∧
   ∀ m_7, ∀ begin_3_8, ∀ size_4_9, ∀ k_5_10, ∀ w_11, I_5 m_7 begin_3_8 size_4_9 k_5_10 w_11 →
    Bin Try.prog (At w_11) .lss 3 false true k_5_10 (.int .i64 8) fun t14_12 =>
    GdP (isB t14_12 true) (fun R => R x0) fun t16_13 =>
    GdP (isB t14_12 true) (fun R => R begin_3_8) fun t17_14 =>
    GdP (isB t14_12 true) (fun R => Bin Try.prog (At w_11) .sub 75 false false t16_13 t17_14 R) fun t18_15 =>
    GdP (isB t14_12 true) (fun R => R size_4_9) fun t19_16 =>
    GdP (isB t14_12 true) (fun R => Bin Try.prog (At w_11) .geq 75 false false t18_15 t19_16 R) fun t20_17 =>
    Pick t14_12 t20_17 (.bool false) fun t21_18 =>
    If t21_18 (
     Bin Try.prog (At w_11) .add 75 false false begin_3_8 size_4_9 fun t24_19 =>
     Bin Try.prog (At w_11) .mul 75 false true size_4_9 (.int .u64 256) fun t26_20 =>
     Bin Try.prog (At w_11) .add 3 false true k_5_10 (.int .i64 1) fun t28_21 =>
     ∃ m_22, m_22 < m_7 ∧
     I_5 m_22 t24_19 t26_20 t28_21 w_11) (
     Bin Try.prog (At w_11) .add 3 true false (.int .i64 191) k_5_10 fun t30_23 =>
     ConvI .u8 t30_23 fun t31_24 =>
     Do Try.prog (Instr.buildSlice 37 1 #[(0, t31_24)]) w_11 fun t32_25 w_26 =>
     Bin Try.prog (At w_26) .sub 3 false true k_5_10 (.int .i64 1) fun t34_27 =>
     ∃ (I_28 : Nat → Value → Value → World → Prop) (m_29 : Nat), I_28 m_29 t32_25 t34_27 w_26 ∧
     ∀ m_30, ∀ out_6_31, ∀ i_7_32, ∀ w_33, I_28 m_30 out_6_31 i_7_32 w_33 →
      Bin Try.prog (At w_33) .geq 3 false true i_7_32 (.int .i64 0) fun t36_34 =>
      If t36_34 (
       Bin Try.prog (At w_33) .sub 75 false false x0 begin_3_8 fun t42_35 =>
       Bin Try.prog (At w_33) .mul 3 true false (.int .i64 8) i_7_32 fun t44_36 =>
       Bin Try.prog (At w_33) .shr 75 false false t42_35 t44_36 fun t45_37 =>
       ConvI .u8 t45_37 fun t46_38 =>
       Do Try.prog (Instr.buildSlice 37 1 #[(0, t46_38)]) w_33 fun t47_39 w_40 =>
       Do Try.prog (Builtin.append_ #[37, 37] 37 #[out_6_31, t47_39]) w_40 fun t48_41 w_42 =>
       Bin Try.prog (At w_42) .sub 3 false true i_7_32 (.int .i64 1) fun t38_43 =>
       ∃ m_44, m_44 < m_30 ∧
       I_28 m_44 t48_41 t38_43 w_42) (
       R out_6_31 w_33)))
theorem C_furlongref03_Num_ent : Ent Try.prog 38 := ⟨_, Try.func38, by decide, rfl⟩
theorem C_furlongref03_Num_link {x0 : Value} {w : World} {R : Value → World → Prop} (h : C_furlongref03_Num x0 w R) : CallF Try.prog 38 #[x0] w R :=
  callF_vFun (L := [0, 2, 3, 4, 5, 6, 7, 9, 21, 36]) (args := [x0]) C_furlongref03_Num_ent Try.func38 rfl (Eq.mp (show (C_furlongref03_Num x0 w R) = vFun Try.prog Try.f38 [0, 2, 3, 4, 5, 6, 7, 9, 21, 36] [x0] w R by kernel_rfl) h)

/-- furlong/furlongref10.queue: function 39 -/
def C_furlongref10_queue (x0 : Value) (w : World) (R : Value → World → Prop) : Prop :=
  Do Try.prog (Instr.box 25 x0) w fun q_1_1 w_2 =>
  FAd 0 q_1_1 fun t3_3 =>
  LdC (At w_2) t3_3 fun t4_4 =>
  FAd 1 q_1_1 fun t5_5 =>
  LdC (At w_2) t5_5 fun t6_6 =>
  FAd 2 q_1_1 fun t7_7 =>
  LdC (At w_2) t7_7 fun t8_8 =>
  FAd 3 q_1_1 fun t9_9 =>
  FAd 0 t9_9 fun t10_10 =>
  LdC (At w_2) t10_10 fun t11_11 =>
  FAd 3 q_1_1 fun t12_12 =>
  FAd 1 t12_12 fun t13_13 =>
  LdC (At w_2) t13_13 fun t14_14 =>
  FAd 5 q_1_1 fun t15_15 =>
  FAd 0 t15_15 fun t16_16 =>
  LdC (At w_2) t16_16 fun t17_17 =>
  FAd 5 q_1_1 fun t18_18 =>
  FAd 1 t18_18 fun t19_19 =>
  LdC (At w_2) t19_19 fun t20_20 =>
  Do Try.prog (Instr.buildSlice 81 7 #[(0, t4_4), (1, t6_6), (2, t8_8), (3, t11_11), (4, t14_14), (5, t17_17), (6, t20_20)]) w_2 fun t21_21 w_22 =>
  R t21_21 w_22
theorem C_furlongref10_queue_ent : Ent Try.prog 39 := ⟨_, Try.func39, by decide, rfl⟩
theorem C_furlongref10_queue_link {x0 : Value} {w : World} {R : Value → World → Prop} (h : C_furlongref10_queue x0 w R) : CallF Try.prog 39 #[x0] w R :=
  callF_vFun (L := [0, 1, 2]) (args := [x0]) C_furlongref10_queue_ent Try.func39 rfl (Eq.mp (show (C_furlongref10_queue x0 w R) = vFun Try.prog Try.f39 [0, 1, 2] [x0] w R by kernel_rfl) h)

/-- furlong/furlongref10.node: function 40 -/
def C_furlongref10_node (x0 : Value) (w : World) (R : Value → World → Prop) : Prop :=
  Do Try.prog (Instr.box 27 x0) w fun n_1_1 w_2 =>
  FAd 0 n_1_1 fun t3_3 =>
  LdC (At w_2) t3_3 fun t4_4 =>
  FAd 1 n_1_1 fun t5_5 =>
  LdC (At w_2) t5_5 fun t6_6 =>
  FAd 2 n_1_1 fun t7_7 =>
  LdC (At w_2) t7_7 fun t8_8 =>
  FAd 3 n_1_1 fun t9_9 =>
  LdC (At w_2) t9_9 fun t10_10 =>
  FAd 4 n_1_1 fun t11_11 =>
  LdC (At w_2) t11_11 fun t12_12 =>
  Do Try.prog (Instr.buildSlice 81 5 #[(0, t4_4), (1, t6_6), (2, t8_8), (3, t10_10), (4, t12_12)]) w_2 fun t13_13 w_14 =>
  R t13_13 w_14
theorem C_furlongref10_node_ent : Ent Try.prog 40 := ⟨_, Try.func40, by decide, rfl⟩
theorem C_furlongref10_node_link {x0 : Value} {w : World} {R : Value → World → Prop} (h : C_furlongref10_node x0 w R) : CallF Try.prog 40 #[x0] w R :=
  callF_vFun (L := [0, 1, 2]) (args := [x0]) C_furlongref10_node_ent Try.func40 rfl (Eq.mp (show (C_furlongref10_node x0 w R) = vFun Try.prog Try.f40 [0, 1, 2] [x0] w R by kernel_rfl) h)

/-- furlong/furlongref10.task: function 41 -/
def C_furlongref10_task (x0 : Value) (w : World) (R : Value → World → Prop) : Prop :=
  Do Try.prog (Instr.box 30 x0) w fun t_1_1 w_2 =>
  FAd 0 t_1_1 fun t4_3 =>
  LdC (At w_2) t4_3 fun t5_4 =>
  FAd 1 t_1_1 fun t6_5 =>
  LdC (At w_2) t6_5 fun t7_6 =>
  FAd 2 t_1_1 fun t8_7 =>
  FAd 0 t8_7 fun t9_8 =>
  LdC (At w_2) t9_8 fun t10_9 =>
  FAd 2 t_1_1 fun t11_10 =>
  FAd 1 t11_10 fun t12_11 =>
  LdC (At w_2) t12_11 fun t13_12 =>
  FAd 4 t_1_1 fun t14_13 =>
  LdC (At w_2) t14_13 fun t15_14 =>
  Do Try.prog (Instr.buildSlice 81 5 #[(0, t5_4), (1, t7_6), (2, t10_9), (3, t13_12), (4, t15_14)]) w_2 fun t16_15 w_16 =>
  CallF Try.prog 37 #[(.slice none 0 0), t16_15] w_16 fun t17_17 w_18 =>
  FAd 5 t_1_1 fun t19_19 =>
  LdC (At w_18) t19_19 fun t20_20 =>
  CallF Try.prog 65 #[t20_20] w_18 fun t21_21 w_22 =>
  Do Try.prog (Builtin.append_ #[37, 37] 37 #[t17_17, t21_21]) w_22 fun t22_23 w_24 =>
  FAd 6 t_1_1 fun t24_25 =>
  LdC (At w_24) t24_25 fun t25_26 =>
  Do Try.prog (Instr.buildSlice 81 1 #[(0, t25_26)]) w_24 fun t26_27 w_28 =>
  CallF Try.prog 37 #[t22_23, t26_27] w_28 fun t27_29 w_30 =>
  R t27_29 w_30
theorem C_furlongref10_task_ent : Ent Try.prog 41 := ⟨_, Try.func41, by decide, rfl⟩
theorem C_furlongref10_task_link {x0 : Value} {w : World} {R : Value → World → Prop} (h : C_furlongref10_task x0 w R) : CallF Try.prog 41 #[x0] w R :=
  callF_vFun (L := [0, 1, 2, 3]) (args := [x0]) C_furlongref10_task_ent Try.func41 rfl (Eq.mp (show (C_furlongref10_task x0 w R) = vFun Try.prog Try.f41 [0, 1, 2, 3] [x0] w R by kernel_rfl) h)

/-- furlong/furlongref10.SameTask: function 42 -/
def C_furlongref10_SameTask (x0 : Value) (x1 : Value) (w : World) (R : Value → World → Prop) : Prop :=
  Do Try.prog (Instr.box 30 x0) w fun a_2_1 w_2 =>
  Do Try.prog (Instr.box 30 x1) w_2 fun b_3_3 w_4 =>
  FAd 0 a_2_1 fun t5_5 =>
  LdC (At w_4) t5_5 fun t6_6 =>
  FAd 0 b_3_3 fun t7_7 =>
  LdC (At w_4) t7_7 fun t8_8 =>
  Bin Try.prog (At w_4) .eql 3 false false t6_6 t8_8 fun t9_9 =>
  GdP (isB t9_9 true) (fun R => FAd 1 a_2_1 R) fun t11_10 =>
  GdP (isB t9_9 true) (fun R => LdC (At w_4) t11_10 R) fun t12_11 =>
  GdP (isB t9_9 true) (fun R => FAd 1 b_3_3 R) fun t13_12 =>
  GdP (isB t9_9 true) (fun R => LdC (At w_4) t13_12 R) fun t14_13 =>
  GdP (isB t9_9 true) (fun R => Bin Try.prog (At w_4) .eql 3 false false t12_11 t14_13 R) fun t15_14 =>
  Pick t9_9 t15_14 (.bool false) fun t16_15 =>
  GdP (isB t16_15 true) (fun R => FAd 2 a_2_1 R) fun t18_16 =>
  GdP (isB t16_15 true) (fun R => LdA (At w_4) 2 t18_16 R) fun t19_17 =>
  GdP (isB t16_15 true) (fun R => FAd 2 b_3_3 R) fun t20_18 =>
  GdP (isB t16_15 true) (fun R => LdA (At w_4) 2 t20_18 R) fun t21_19 =>
  GdP (isB t16_15 true) (fun R => Bin Try.prog (At w_4) .eql 23 false false t19_17 t21_19 R) fun t22_20 =>
  Pick t16_15 t22_20 (.bool false) fun t23_21 =>
  GdP (isB t23_21 true) (fun R => FAd 4 a_2_1 R) fun t25_22 =>
  GdP (isB t23_21 true) (fun R => LdC (At w_4) t25_22 R) fun t26_23 =>
  GdP (isB t23_21 true) (fun R => FAd 4 b_3_3 R) fun t27_24 =>
  GdP (isB t23_21 true) (fun R => LdC (At w_4) t27_24 R) fun t28_25 =>
  GdP (isB t23_21 true) (fun R => Bin Try.prog (At w_4) .eql 3 false false t26_23 t28_25 R) fun t29_26 =>
  Pick t23_21 t29_26 (.bool false) fun t30_27 =>
  GdP (isB t30_27 true) (fun R => FAd 6 a_2_1 R) fun t32_28 =>
  GdP (isB t30_27 true) (fun R => LdC (At w_4) t32_28 R) fun t33_29 =>
  GdP (isB t30_27 true) (fun R => FAd 6 b_3_3 R) fun t34_30 =>
  GdP (isB t30_27 true) (fun R => LdC (At w_4) t34_30 R) fun t35_31 =>
  GdP (isB t30_27 true) (fun R => Bin Try.prog (At w_4) .eql 3 false false t33_29 t35_31 R) fun t36_32 =>
  Pick t30_27 t36_32 (.bool false) fun t37_33 =>
  GdP (isB t37_33 true) (fun R => FAd 5 a_2_1 R) fun t39_34 =>
  GdP (isB t37_33 true) (fun R => LdC (At w_4) t39_34 R) fun t40_35 =>
  GdP (isB t37_33 true) (fun R => FAd 5 b_3_3 R) fun t41_36 =>
  GdP (isB t37_33 true) (fun R => LdC (At w_4) t41_36 R) fun t42_37 =>
  Gd (isB t37_33 true) (fun R => CallF Try.prog 55 #[t40_35, t42_37] w_4 R) w_4 fun t43_38 w_39 =>
  Pick t37_33 t43_38 (.bool false) fun t44_40 =>
  R t44_40 w_39
theorem C_furlongref10_SameTask_ent : Ent Try.prog 42 := ⟨_, Try.func42, by decide, rfl⟩
theorem C_furlongref10_SameTask_link {x0 x1 : Value} {w : World} {R : Value → World → Prop} (h : C_furlongref10_SameTask x0 x1 w R) : CallF Try.prog 42 #[x0, x1] w R :=
  callF_vFun (L := [0, 1, 2, 3, 4]) (args := [x0, x1]) C_furlongref10_SameTask_ent Try.func42 rfl (Eq.mp (show (C_furlongref10_SameTask x0 x1 w R) = vFun Try.prog Try.f42 [0, 1, 2, 3, 4] [x0, x1] w R by kernel_rfl) h)

/-- furlong/command.whole[furlong/api.Entry]: function 43 -/
def C_command_whole_api_Entry (x0 : Value) (x1 : Value) (w : World) (R : Value → World → Prop) : Prop :=
  Do Try.prog (Instr.alloc 34 true (.tuple #[])) w fun x_4_1 w_2 =>
  Bld Try.prog 140 [(0, x0)] fun t10_3 =>
  Do Try.prog (Instr.box 140 t10_3) w_2 fun t11_4 w_5 =>
  CallV Try.prog x1 #[t11_4] w_5 fun t14_6 w_7 =>
  DoU Try.prog (Instr.storeAt 34 x_4_1 t14_6) w_7 fun u_8 w_9 =>
  NilC t11_4 fun t16_10 =>
  FAd 2 t16_10 fun t17_11 =>
  LdC (At w_9) t17_11 fun t18_12 =>
  Bin Try.prog (At w_9) .eql 38 false true t18_12 (.int .i64 0) fun t19_13 =>
  GdP (isB t19_13 true) (fun R => R t11_4) fun t21_14 =>
  GdP (isB t19_13 true) (fun R => NilC t21_14 R) fun t22_15 =>
  GdP (isB t19_13 true) (fun R => FAd 1 t22_15 R) fun t23_16 =>
  GdP (isB t19_13 true) (fun R => LdC (At w_9) t23_16 R) fun t24_17 =>
  GdP (isB t19_13 true) (fun R => R x0) fun t25_18 =>
  GdP (isB t19_13 true) (fun R => Len t25_18 R) fun t26_19 =>
  GdP (isB t19_13 true) (fun R => Bin Try.prog (At w_9) .lss 3 false false t24_17 t26_19 R) fun t27_20 =>
  Pick t19_13 t27_20 (.bool false) fun t28_21 =>
  ∃ J_22 : World → Prop,
  (∀ w_23, J_22 w_23 → (
   NilC t11_4 fun t33_24 =>
   FAd 2 t33_24 fun t34_25 =>
   LdC (At w_23) t34_25 fun t35_26 =>
   Bin Try.prog (At w_23) .neq 38 false true t35_26 (.int .i64 0) fun t36_27 =>
   If t36_27 (
    Do Try.prog (Instr.alloc 34 true (.tuple #[])) w_23 fun none_8_28 w_29 =>
    ∃ S_30 : World → Prop, S_30 (World.drew w_29) ∧
    LdA S_30 27 none_8_28 fun t37_31 =>
    NilC t11_4 fun t39_32 =>
    FAd 1 t39_32 fun t40_33 =>
    LdC S_30 t40_33 fun t41_34 =>
    NilC t11_4 fun t43_35 =>
    FAd 2 t43_35 fun t44_36 =>
    LdC S_30 t44_36 fun t45_37 =>
    DoU Try.prog (Instr.storeAt 34 x_4_1 t37_31) (World.drew w_29) fun u_38 w_39 =>
    S_30 w_39 ∧
    LdA (At w_39) 27 x_4_1 fun r_40 =>
    R (.tuple #[r_40, t41_34, t45_37]) w_39) (
    LdA (At w_23) 27 x_4_1 fun t46_41 =>
    DoU Try.prog (Instr.storeAt 34 x_4_1 t46_41) w_23 fun u_42 w_43 =>
    LdA (At w_43) 27 x_4_1 fun r_44 =>
    R (.tuple #[r_44, (.int .i64 0), (.int .i64 0)]) w_43))) ∧
  If t28_21 (
   NilC t11_4 fun t30_45 =>
   FAd 2 t30_45 fun t31_46 =>
   DoU Try.prog (Instr.storeAt 38 t31_46 (.int .i64 7)) w_9 fun u_47 w_48 =>
   J_22 w_48) (
   J_22 w_9)
theorem C_command_whole_api_Entry_ent : Ent Try.prog 43 := ⟨_, Try.func43, by decide, rfl⟩
theorem C_command_whole_api_Entry_link {x0 x1 : Value} {w : World} {R : Value → World → Prop} (h : C_command_whole_api_Entry x0 x1 w R) : CallF Try.prog 43 #[x0, x1] w R :=
  callF_vFun (L := [0, 1, 4, 5, 6, 7, 8, 28, 36]) (args := [x0, x1]) C_command_whole_api_Entry_ent Try.func43 rfl (Eq.mp (show (C_command_whole_api_Entry x0 x1 w R) = vFun Try.prog Try.f43 [0, 1, 4, 5, 6, 7, 8, 28, 36] [x0, x1] w R by kernel_rfl) h)

/-- (*furlong/command.reader).entry: function 44 -/
def C_command_reader_entry (x0 : Value) (w : World) (R : Value → World → Prop) : Prop :=
  Do Try.prog (Instr.alloc 34 true (.tuple #[])) w fun t2_1 w_2 =>
  CallF Try.prog 77 #[x0] w_2 fun t4_3 w_4 =>
  CallF Try.prog 78 #[x0] w_4 fun t6_5 w_6 =>
  CallF Try.prog 78 #[x0] w_6 fun t8_7 w_8 =>
  CallF Try.prog 79 #[x0] w_8 fun t10_9 w_10 =>
  Bld Try.prog 34 [(0, t4_3), (1, t6_5), (2, t8_7), (3, t10_9)] fun t11_11 =>
  DoU Try.prog (Instr.storeAt 34 t2_1 t11_11) w_10 fun u_12 w_13 =>
  LdA (At w_13) 27 t2_1 fun r_14 =>
  R r_14 w_13
theorem C_command_reader_entry_ent : Ent Try.prog 44 := ⟨_, Try.func44, by decide, rfl⟩
theorem C_command_reader_entry_link {x0 : Value} {w : World} {R : Value → World → Prop} (h : C_command_reader_entry x0 w R) : CallF Try.prog 44 #[x0] w R :=
  callF_vFun (L := [0, 2]) (args := [x0]) C_command_reader_entry_ent Try.func44 rfl (Eq.mp (show (C_command_reader_entry x0 w R) = vFun Try.prog Try.f44 [0, 2] [x0] w R by kernel_rfl) h)

/-- furlong/furlongref10.nums: function 45 -/
def C_furlongref10_nums (x0 : Value) (x1 : Value) (w : World) (R : Value → World → Prop) : Prop :=
  Do Try.prog (Instr.box 92 x0) w fun r_2_1 w_2 =>
  Do Try.prog (Instr.alloc 92 true (.tuple #[])) w_2 fun t4_3 w_4 =>
  Do Try.prog (Instr.makeSlice 81 x1 x1) w_4 fun t9_5 w_6 =>
  ∃ (I_7 : Nat → Value → World → Prop) (m_8 : Nat), I_7 m_8 (.int .i64 0) w_6 ∧
  ∀ m_9, ∀ t11_10, ∀ w_11, I_7 m_9 t11_10 w_11 →
   Bin Try.prog (At w_11) .lss 3 false false t11_10 x1 fun t12_12 =>
   If t12_12 (
    LdA (At w_11) 3 r_2_1 fun t17_13 =>
    CallF Try.prog 80 #[t17_13] w_11 fun t18_14 w_15 =>
    Ext t18_14 0 fun t19_16 =>
    Ext t18_14 1 fun t20_17 =>
    DoU Try.prog (Instr.storeAt 92 r_2_1 t19_16) w_15 fun u_18 w_19 =>
    IAdS 1 t9_5 t11_10 fun t21_20 =>
    DoU Try.prog (Instr.storeAt 2 t21_20 t20_17) w_19 fun u_21 w_22 =>
    Bin Try.prog (At w_22) .add 3 false true t11_10 (.int .i64 1) fun t22_23 =>
    ∃ m_24, m_24 < m_9 ∧
    I_7 m_24 t22_23 w_22) (
    LdA (At w_11) 3 r_2_1 fun t23_25 =>
    DoU Try.prog (Instr.storeAt 92 t4_3 t23_25) w_11 fun u_26 w_27 =>
    LdA (At w_27) 3 t4_3 fun r_28 =>
    R (.tuple #[r_28, t9_5]) w_27)
theorem C_furlongref10_nums_ent : Ent Try.prog 45 := ⟨_, Try.func45, by decide, rfl⟩
theorem C_furlongref10_nums_link {x0 x1 : Value} {w : World} {R : Value → World → Prop} (h : C_furlongref10_nums x0 x1 w R) : CallF Try.prog 45 #[x0, x1] w R :=
  callF_vFun (L := [0, 1, 2, 4, 5, 6, 7, 10, 11, 12]) (args := [x0, x1]) C_furlongref10_nums_ent Try.func45 rfl (Eq.mp (show (C_furlongref10_nums x0 x1 w R) = vFun Try.prog Try.f45 [0, 1, 2, 4, 5, 6, 7, 10, 11, 12] [x0, x1] w R by kernel_rfl) h)

/-- furlong/furlongref10.upto: function 46 -/
def C_furlongref10_upto (x0 : Value) (x1 : Value) (w : World) (R : Value → World → Prop) : Prop :=
  Do Try.prog (Instr.box 92 x0) w fun r_2_1 w_2 =>
  Do Try.prog (Instr.alloc 92 true (.tuple #[])) w_2 fun t4_3 w_4 =>
  FAd 2 r_2_1 fun t10_5 =>
  LdC (At w_4) t10_5 fun t11_6 =>
  Bin Try.prog (At w_4) .neq 38 false true t11_6 (.int .i64 0) fun t12_7 =>
  If t12_7 (
   LdA (At w_4) 3 r_2_1 fun t13_8 =>
   DoU Try.prog (Instr.storeAt 92 t4_3 t13_8) w_4 fun u_9 w_10 =>
   LdA (At w_10) 3 t4_3 fun r_11 =>
   R (.tuple #[r_11, (.int .i64 0)]) w_10) (
   FAd 1 r_2_1 fun t14_12 =>
   LdC (At w_4) t14_12 fun t15_13 =>
   FAd 0 r_2_1 fun t17_14 =>
   LdC (At w_4) t17_14 fun t18_15 =>
   FAd 1 r_2_1 fun t19_16 =>
   LdC (At w_4) t19_16 fun t20_17 =>
   CallF Try.prog 81 #[t18_15, t20_17] w_4 fun t21_18 w_19 =>
   Ext t21_18 0 fun t22_20 =>
   Ext t21_18 1 fun t23_21 =>
   Ext t21_18 2 fun t24_22 =>
   FAd 1 r_2_1 fun t26_23 =>
   DoU Try.prog (Instr.storeAt 3 t26_23 t23_21) w_19 fun u_24 w_25 =>
   FAd 2 r_2_1 fun t28_26 =>
   DoU Try.prog (Instr.storeAt 38 t28_26 t24_22) w_25 fun u_27 w_28 =>
   Bin Try.prog (At w_28) .eql 38 false true t24_22 (.int .i64 0) fun t30_29 =>
   GdP (isB t30_29 true) (fun R => R t22_20) fun t32_30 =>
   GdP (isB t30_29 true) (fun R => R x1) fun t33_31 =>
   GdP (isB t30_29 true) (fun R => Bin Try.prog (At w_28) .gtr 75 false false t32_30 t33_31 R) fun t34_32 =>
   Pick t30_29 t34_32 (.bool false) fun t35_33 =>
   If t35_33 (
    FAd 1 r_2_1 fun t37_34 =>
    DoU Try.prog (Instr.storeAt 3 t37_34 t15_13) w_28 fun u_35 w_36 =>
    FAd 2 r_2_1 fun t38_37 =>
    DoU Try.prog (Instr.storeAt 38 t38_37 (.int .i64 4)) w_36 fun u_38 w_39 =>
    LdA (At w_39) 3 r_2_1 fun t39_40 =>
    DoU Try.prog (Instr.storeAt 92 t4_3 t39_40) w_39 fun u_41 w_42 =>
    LdA (At w_42) 3 t4_3 fun r_43 =>
    R (.tuple #[r_43, (.int .i64 0)]) w_42) (
    LdA (At w_28) 3 r_2_1 fun t40_44 =>
    ConvI .i64 t22_20 fun t42_45 =>
    DoU Try.prog (Instr.storeAt 92 t4_3 t40_44) w_28 fun u_46 w_47 =>
    LdA (At w_47) 3 t4_3 fun r_48 =>
    R (.tuple #[r_48, t42_45]) w_47))
theorem C_furlongref10_upto_ent : Ent Try.prog 46 := ⟨_, Try.func46, by decide, rfl⟩
theorem C_furlongref10_upto_link {x0 x1 : Value} {w : World} {R : Value → World → Prop} (h : C_furlongref10_upto x0 x1 w R) : CallF Try.prog 46 #[x0, x1] w R :=
  callF_vFun (L := [0, 1, 2, 4, 5, 6, 7, 8, 9, 12, 35]) (args := [x0, x1]) C_furlongref10_upto_ent Try.func46 rfl (Eq.mp (show (C_furlongref10_upto x0 x1 w R) = vFun Try.prog Try.f46 [0, 1, 2, 4, 5, 6, 7, 8, 9, 12, 35] [x0, x1] w R by kernel_rfl) h)

/-- furlong/furlongref10.aQueue: function 47 -/
def C_furlongref10_aQueue (x0 : Value) (w : World) (R : Value → World → Prop) : Prop :=
  Do Try.prog (Instr.box 92 x0) w fun r_1_1 w_2 =>
  Do Try.prog (Instr.alloc 92 true (.tuple #[])) w_2 fun t2_3 w_4 =>
  Do Try.prog (Instr.alloc 25 true (.tuple #[])) w_4 fun t3_5 w_6 =>
  LdA (At w_6) 3 r_1_1 fun t6_7 =>
  CallF Try.prog 45 #[t6_7, (.int .i64 7)] w_6 fun t7_8 w_9 =>
  Ext t7_8 0 fun t8_10 =>
  Ext t7_8 1 fun t9_11 =>
  DoU Try.prog (Instr.storeAt 92 r_1_1 t8_10) w_9 fun u_12 w_13 =>
  ∃ S_14 : World → Prop, S_14 (World.drew w_13) ∧
  LdA S_14 3 r_1_1 fun t10_15 =>
  IAdS 1 t9_11 (.int .i64 0) fun t12_16 =>
  LdC S_14 t12_16 fun t13_17 =>
  IAdS 1 t9_11 (.int .i64 1) fun t15_18 =>
  LdC S_14 t15_18 fun t16_19 =>
  IAdS 1 t9_11 (.int .i64 2) fun t18_20 =>
  LdC S_14 t18_20 fun t19_21 =>
  IAdS 1 t9_11 (.int .i64 3) fun t21_22 =>
  LdC S_14 t21_22 fun t22_23 =>
  IAdS 1 t9_11 (.int .i64 4) fun t24_24 =>
  LdC S_14 t24_24 fun t25_25 =>
  Bld Try.prog 23 [(0, t22_23), (1, t25_25)] fun t26_26 =>
  IAdS 1 t9_11 (.int .i64 5) fun t28_27 =>
  LdC S_14 t28_27 fun t29_28 =>
  IAdS 1 t9_11 (.int .i64 6) fun t31_29 =>
  LdC S_14 t31_29 fun t32_30 =>
  Bld Try.prog 23 [(0, t29_28), (1, t32_30)] fun t33_31 =>
  Bld Try.prog 25 [(0, t13_17), (1, t16_19), (2, t19_21), (3, t26_26), (4, t33_31)] fun t34_32 =>
  DoU Try.prog (Instr.storeAt 92 t2_3 t10_15) (World.drew w_13) fun u_33 w_34 =>
  S_14 w_34 ∧
  DoU Try.prog (Instr.storeAt 25 t3_5 t34_32) w_34 fun u_35 w_36 =>
  LdA (At w_36) 3 t2_3 fun r_37 =>
  LdA (At w_36) 7 t3_5 fun r_38 =>
  R (.tuple #[r_37, r_38]) w_36
theorem C_furlongref10_aQueue_ent : Ent Try.prog 47 := ⟨_, Try.func47, by decide, rfl⟩
theorem C_furlongref10_aQueue_link {x0 : Value} {w : World} {R : Value → World → Prop} (h : C_furlongref10_aQueue x0 w R) : CallF Try.prog 47 #[x0] w R :=
  callF_vFun (L := [0, 1, 2, 3, 4]) (args := [x0]) C_furlongref10_aQueue_ent Try.func47 rfl (Eq.mp (show (C_furlongref10_aQueue x0 w R) = vFun Try.prog Try.f47 [0, 1, 2, 3, 4] [x0] w R by kernel_rfl) h)

/-- furlong/furlongref10.aNode: function 48 -/
def C_furlongref10_aNode (x0 : Value) (w : World) (R : Value → World → Prop) : Prop :=
  Do Try.prog (Instr.box 92 x0) w fun r_1_1 w_2 =>
  Do Try.prog (Instr.alloc 92 true (.tuple #[])) w_2 fun t2_3 w_4 =>
  Do Try.prog (Instr.alloc 27 true (.tuple #[])) w_4 fun t3_5 w_6 =>
  LdA (At w_6) 3 r_1_1 fun t6_7 =>
  CallF Try.prog 45 #[t6_7, (.int .i64 5)] w_6 fun t7_8 w_9 =>
  Ext t7_8 0 fun t8_10 =>
  Ext t7_8 1 fun t9_11 =>
  DoU Try.prog (Instr.storeAt 92 r_1_1 t8_10) w_9 fun u_12 w_13 =>
  ∃ S_14 : World → Prop, S_14 (World.drew w_13) ∧
  LdA S_14 3 r_1_1 fun t10_15 =>
  IAdS 1 t9_11 (.int .i64 0) fun t12_16 =>
  LdC S_14 t12_16 fun t13_17 =>
  IAdS 1 t9_11 (.int .i64 1) fun t15_18 =>
  LdC S_14 t15_18 fun t16_19 =>
  IAdS 1 t9_11 (.int .i64 2) fun t18_20 =>
  LdC S_14 t18_20 fun t19_21 =>
  IAdS 1 t9_11 (.int .i64 3) fun t21_22 =>
  LdC S_14 t21_22 fun t22_23 =>
  IAdS 1 t9_11 (.int .i64 4) fun t24_24 =>
  LdC S_14 t24_24 fun t25_25 =>
  Bld Try.prog 27 [(0, t13_17), (1, t16_19), (2, t19_21), (3, t22_23), (4, t25_25)] fun t26_26 =>
  DoU Try.prog (Instr.storeAt 92 t2_3 t10_15) (World.drew w_13) fun u_27 w_28 =>
  S_14 w_28 ∧
  DoU Try.prog (Instr.storeAt 27 t3_5 t26_26) w_28 fun u_29 w_30 =>
  LdA (At w_30) 3 t2_3 fun r_31 =>
  LdA (At w_30) 5 t3_5 fun r_32 =>
  R (.tuple #[r_31, r_32]) w_30
theorem C_furlongref10_aNode_ent : Ent Try.prog 48 := ⟨_, Try.func48, by decide, rfl⟩
theorem C_furlongref10_aNode_link {x0 : Value} {w : World} {R : Value → World → Prop} (h : C_furlongref10_aNode x0 w R) : CallF Try.prog 48 #[x0] w R :=
  callF_vFun (L := [0, 1, 2, 3, 4]) (args := [x0]) C_furlongref10_aNode_ent Try.func48 rfl (Eq.mp (show (C_furlongref10_aNode x0 w R) = vFun Try.prog Try.f48 [0, 1, 2, 3, 4] [x0] w R by kernel_rfl) h)

/-- furlong/furlongref10.aTask: function 49 -/
def C_furlongref10_aTask (x0 : Value) (w : World) (R : Value → World → Prop) : Prop :=
  Do Try.prog (Instr.box 92 x0) w fun r_1_1 w_2 =>
  Do Try.prog (Instr.alloc 92 true (.tuple #[])) w_2 fun t2_3 w_4 =>
  Do Try.prog (Instr.alloc 30 true (.tuple #[])) w_4 fun t3_5 w_6 =>
  LdA (At w_6) 3 r_1_1 fun t8_7 =>
  CallF Try.prog 45 #[t8_7, (.int .i64 5)] w_6 fun t9_8 w_9 =>
  Ext t9_8 0 fun t10_10 =>
  Ext t9_8 1 fun t11_11 =>
  DoU Try.prog (Instr.storeAt 92 r_1_1 t10_10) w_9 fun u_12 w_13 =>
  LdA (At w_13) 3 r_1_1 fun t13_14 =>
  CallF Try.prog 53 #[t13_14] w_13 fun t14_15 w_16 =>
  Ext t14_15 0 fun t15_17 =>
  Ext t14_15 1 fun t16_18 =>
  DoU Try.prog (Instr.storeAt 92 r_1_1 t15_17) w_16 fun u_19 w_20 =>
  LdA (At w_20) 3 r_1_1 fun t18_21 =>
  CallF Try.prog 80 #[t18_21] w_20 fun t19_22 w_23 =>
  Ext t19_22 0 fun t20_24 =>
  Ext t19_22 1 fun t21_25 =>
  DoU Try.prog (Instr.storeAt 92 r_1_1 t20_24) w_23 fun u_26 w_27 =>
  ∃ S_28 : World → Prop, S_28 (World.drew w_27) ∧
  LdA S_28 3 r_1_1 fun t22_29 =>
  IAdS 1 t11_11 (.int .i64 0) fun t24_30 =>
  LdC S_28 t24_30 fun t25_31 =>
  IAdS 1 t11_11 (.int .i64 1) fun t27_32 =>
  LdC S_28 t27_32 fun t28_33 =>
  IAdS 1 t11_11 (.int .i64 2) fun t30_34 =>
  LdC S_28 t30_34 fun t31_35 =>
  IAdS 1 t11_11 (.int .i64 3) fun t33_36 =>
  LdC S_28 t33_36 fun t34_37 =>
  Bld Try.prog 23 [(0, t31_35), (1, t34_37)] fun t35_38 =>
  IAdS 1 t11_11 (.int .i64 4) fun t37_39 =>
  LdC S_28 t37_39 fun t38_40 =>
  Bld Try.prog 30 [(0, t25_31), (1, t28_33), (2, t35_38), (3, t38_40), (4, t16_18), (5, t21_25)] fun t41_41 =>
  DoU Try.prog (Instr.storeAt 92 t2_3 t22_29) (World.drew w_27) fun u_42 w_43 =>
  S_28 w_43 ∧
  DoU Try.prog (Instr.storeAt 30 t3_5 t41_41) w_43 fun u_44 w_45 =>
  LdA (At w_45) 3 t2_3 fun r_46 =>
  LdA (At w_45) 7 t3_5 fun r_47 =>
  R (.tuple #[r_46, r_47]) w_45
theorem C_furlongref10_aTask_ent : Ent Try.prog 49 := ⟨_, Try.func49, by decide, rfl⟩
theorem C_furlongref10_aTask_link {x0 : Value} {w : World} {R : Value → World → Prop} (h : C_furlongref10_aTask x0 w R) : CallF Try.prog 49 #[x0] w R :=
  callF_vFun (L := [0, 1, 2, 3, 4, 5, 6]) (args := [x0]) C_furlongref10_aTask_ent Try.func49 rfl (Eq.mp (show (C_furlongref10_aTask x0 w R) = vFun Try.prog Try.f49 [0, 1, 2, 3, 4, 5, 6] [x0] w R by kernel_rfl) h)

/-- furlong/furlongref10.end: function 50 -/
def C_furlongref10_end (x0 : Value) (w : World) (R : Value → World → Prop) : Prop :=
  Do Try.prog (Instr.box 92 x0) w fun r_1_1 w_2 =>
  FAd 2 r_1_1 fun t5_3 =>
  LdC (At w_2) t5_3 fun t6_4 =>
  Bin Try.prog (At w_2) .neq 38 false true t6_4 (.int .i64 0) fun t7_5 =>
  If t7_5 (
   ∃ S_6 : World → Prop, S_6 (World.drew w_2) ∧
   FAd 1 r_1_1 fun t8_7 =>
   LdC S_6 t8_7 fun t9_8 =>
   FAd 2 r_1_1 fun t10_9 =>
   LdC S_6 t10_9 fun t11_10 =>
   R (.tuple #[t9_8, t11_10]) (World.drew w_2)) (
   FAd 1 r_1_1 fun t13_11 =>
   LdC (At w_2) t13_11 fun t14_12 =>
   FAd 0 r_1_1 fun t15_13 =>
   LdC (At w_2) t15_13 fun t16_14 =>
   Len t16_14 fun t17_15 =>
   Bin Try.prog (At w_2) .lss 3 false false t14_12 t17_15 fun t18_16 =>
   If t18_16 (
    FAd 1 r_1_1 fun t19_17 =>
    LdC (At w_2) t19_17 fun t20_18 =>
    R (.tuple #[t20_18, (.int .i64 7)]) w_2) (
    R (.tuple #[(.int .i64 0), (.int .i64 0)]) w_2))
theorem C_furlongref10_end_ent : Ent Try.prog 50 := ⟨_, Try.func50, by decide, rfl⟩
theorem C_furlongref10_end_link {x0 : Value} {w : World} {R : Value → World → Prop} (h : C_furlongref10_end x0 w R) : CallF Try.prog 50 #[x0] w R :=
  callF_vFun (L := [0, 1, 2, 3, 4, 12]) (args := [x0]) C_furlongref10_end_ent Try.func50 rfl (Eq.mp (show (C_furlongref10_end x0 w R) = vFun Try.prog Try.f50 [0, 1, 2, 3, 4, 12] [x0] w R by kernel_rfl) h)

/-- furlong/command.whole[furlong/api.Answer]: function 51 -/
def C_command_whole_api_Answer (x0 : Value) (x1 : Value) (w : World) (R : Value → World → Prop) : Prop :=
  Do Try.prog (Instr.alloc 49 true (.tuple #[])) w fun x_4_1 w_2 =>
  Bld Try.prog 140 [(0, x0)] fun t10_3 =>
  Do Try.prog (Instr.box 140 t10_3) w_2 fun t11_4 w_5 =>
  CallV Try.prog x1 #[t11_4] w_5 fun t14_6 w_7 =>
  DoU Try.prog (Instr.storeAt 49 x_4_1 t14_6) w_7 fun u_8 w_9 =>
  NilC t11_4 fun t16_10 =>
  FAd 2 t16_10 fun t17_11 =>
  LdC (At w_9) t17_11 fun t18_12 =>
  Bin Try.prog (At w_9) .eql 38 false true t18_12 (.int .i64 0) fun t19_13 =>
  GdP (isB t19_13 true) (fun R => R t11_4) fun t21_14 =>
  GdP (isB t19_13 true) (fun R => NilC t21_14 R) fun t22_15 =>
  GdP (isB t19_13 true) (fun R => FAd 1 t22_15 R) fun t23_16 =>
  GdP (isB t19_13 true) (fun R => LdC (At w_9) t23_16 R) fun t24_17 =>
  GdP (isB t19_13 true) (fun R => R x0) fun t25_18 =>
  GdP (isB t19_13 true) (fun R => Len t25_18 R) fun t26_19 =>
  GdP (isB t19_13 true) (fun R => Bin Try.prog (At w_9) .lss 3 false false t24_17 t26_19 R) fun t27_20 =>
  Pick t19_13 t27_20 (.bool false) fun t28_21 =>
  ∃ J_22 : World → Prop,
  (∀ w_23, J_22 w_23 → (
   NilC t11_4 fun t33_24 =>
   FAd 2 t33_24 fun t34_25 =>
   LdC (At w_23) t34_25 fun t35_26 =>
   Bin Try.prog (At w_23) .neq 38 false true t35_26 (.int .i64 0) fun t36_27 =>
   If t36_27 (
    Do Try.prog (Instr.alloc 49 true (.tuple #[])) w_23 fun none_8_28 w_29 =>
    ∃ S_30 : World → Prop, S_30 (World.drew w_29) ∧
    LdA S_30 5 none_8_28 fun t37_31 =>
    NilC t11_4 fun t39_32 =>
    FAd 1 t39_32 fun t40_33 =>
    LdC S_30 t40_33 fun t41_34 =>
    NilC t11_4 fun t43_35 =>
    FAd 2 t43_35 fun t44_36 =>
    LdC S_30 t44_36 fun t45_37 =>
    DoU Try.prog (Instr.storeAt 49 x_4_1 t37_31) (World.drew w_29) fun u_38 w_39 =>
    S_30 w_39 ∧
    LdA (At w_39) 5 x_4_1 fun r_40 =>
    R (.tuple #[r_40, t41_34, t45_37]) w_39) (
    LdA (At w_23) 5 x_4_1 fun t46_41 =>
    DoU Try.prog (Instr.storeAt 49 x_4_1 t46_41) w_23 fun u_42 w_43 =>
    LdA (At w_43) 5 x_4_1 fun r_44 =>
    R (.tuple #[r_44, (.int .i64 0), (.int .i64 0)]) w_43))) ∧
  If t28_21 (
   NilC t11_4 fun t30_45 =>
   FAd 2 t30_45 fun t31_46 =>
   DoU Try.prog (Instr.storeAt 38 t31_46 (.int .i64 7)) w_9 fun u_47 w_48 =>
   J_22 w_48) (
   J_22 w_9)
theorem C_command_whole_api_Answer_ent : Ent Try.prog 51 := ⟨_, Try.func51, by decide, rfl⟩
theorem C_command_whole_api_Answer_link {x0 x1 : Value} {w : World} {R : Value → World → Prop} (h : C_command_whole_api_Answer x0 x1 w R) : CallF Try.prog 51 #[x0, x1] w R :=
  callF_vFun (L := [0, 1, 4, 5, 6, 7, 8, 28, 36]) (args := [x0, x1]) C_command_whole_api_Answer_ent Try.func51 rfl (Eq.mp (show (C_command_whole_api_Answer x0 x1 w R) = vFun Try.prog Try.f51 [0, 1, 4, 5, 6, 7, 8, 28, 36] [x0, x1] w R by kernel_rfl) h)

/-- (*furlong/command.reader).answer: function 52 -/
def C_command_reader_answer (x0 : Value) (w : World) (R : Value → World → Prop) : Prop :=
  Do Try.prog (Instr.alloc 49 true (.tuple #[])) w fun t2_1 w_2 =>
  CallF Try.prog 78 #[x0] w_2 fun t4_3 w_4 =>
  CallF Try.prog 78 #[x0] w_4 fun t6_5 w_6 =>
  CallF Try.prog 78 #[x0] w_6 fun t8_7 w_8 =>
  CallF Try.prog 82 #[x0, (.func (.func 78) #[x0] #[])] w_8 fun t12_9 w_10 =>
  CallF Try.prog 83 #[x0, (.func (.func 84) #[x0] #[])] w_10 fun t16_11 w_12 =>
  Bld Try.prog 49 [(0, t4_3), (1, t6_5), (2, t8_7), (3, t12_9), (4, t16_11)] fun t17_13 =>
  DoU Try.prog (Instr.storeAt 49 t2_1 t17_13) w_12 fun u_14 w_15 =>
  LdA (At w_15) 5 t2_1 fun r_16 =>
  R r_16 w_15
theorem C_command_reader_answer_ent : Ent Try.prog 52 := ⟨_, Try.func52, by decide, rfl⟩
theorem C_command_reader_answer_link {x0 : Value} {w : World} {R : Value → World → Prop} (h : C_command_reader_answer x0 w R) : CallF Try.prog 52 #[x0] w R :=
  callF_vFun (L := [0, 2]) (args := [x0]) C_command_reader_answer_ent Try.func52 rfl (Eq.mp (show (C_command_reader_answer x0 w R) = vFun Try.prog Try.f52 [0, 2] [x0] w R by kernel_rfl) h)

/-- furlong/furlongref10.list: function 53 -/
def C_furlongref10_list (x0 : Value) (w : World) (R : Value → World → Prop) : Prop :=
  Do Try.prog (Instr.box 92 x0) w fun r_1_1 w_2 =>
  Do Try.prog (Instr.alloc 92 true (.tuple #[])) w_2 fun t2_3 w_4 =>
  LdA (At w_4) 3 r_1_1 fun t8_5 =>
  CallF Try.prog 59 #[t8_5] w_4 fun t9_6 w_7 =>
  Ext t9_6 0 fun t10_8 =>
  Ext t9_6 1 fun t11_9 =>
  DoU Try.prog (Instr.storeAt 92 r_1_1 t10_8) w_7 fun u_10 w_11 =>
  ∃ (I_12 : Nat → Value → Value → Value → World → Prop) (m_13 : Nat), I_12 m_13 (.slice none 0 0) (.slice none 0 0) (.int .i64 0) w_11 ∧
  ∀ m_14, ∀ t3_15, ∀ l_5_16, ∀ t13_17, ∀ w_18, I_12 m_14 t3_15 l_5_16 t13_17 w_18 →
   Bin Try.prog (At w_18) .lss 3 false false t13_17 t11_9 fun t14_19 =>
   If t14_19 (
    LdA (At w_18) 3 r_1_1 fun t16_20 =>
    CallF Try.prog 80 #[t16_20] w_18 fun t17_21 w_22 =>
    Ext t17_21 0 fun t18_23 =>
    Ext t17_21 1 fun t19_24 =>
    DoU Try.prog (Instr.storeAt 92 r_1_1 t18_23) w_22 fun u_25 w_26 =>
    FAd 2 r_1_1 fun t20_27 =>
    LdC (At w_26) t20_27 fun t21_28 =>
    Bin Try.prog (At w_26) .neq 38 false true t21_28 (.int .i64 0) fun t22_29 =>
    If t22_29 (
     LdA (At w_26) 3 r_1_1 fun t23_30 =>
     DoU Try.prog (Instr.storeAt 92 t2_3 t23_30) w_26 fun u_31 w_32 =>
     LdA (At w_32) 3 t2_3 fun r_33 =>
     R (.tuple #[r_33, (.slice none 0 0)]) w_32) (
     Do Try.prog (Instr.buildSlice 28 1 #[(0, t19_24)]) w_26 fun t26_34 w_35 =>
     Do Try.prog (Builtin.append_ #[28, 28] 28 #[l_5_16, t26_34]) w_35 fun t27_36 w_37 =>
     Bin Try.prog (At w_37) .add 3 false true t13_17 (.int .i64 1) fun t28_38 =>
     ∃ m_39, m_39 < m_14 ∧
     I_12 m_39 t3_15 t27_36 t28_38 w_37)) (
    LdA (At w_18) 3 r_1_1 fun t29_40 =>
    DoU Try.prog (Instr.storeAt 92 t2_3 t29_40) w_18 fun u_41 w_42 =>
    LdA (At w_42) 3 t2_3 fun r_43 =>
    R (.tuple #[r_43, l_5_16]) w_42)
theorem C_furlongref10_list_ent : Ent Try.prog 53 := ⟨_, Try.func53, by decide, rfl⟩
theorem C_furlongref10_list_link {x0 : Value} {w : World} {R : Value → World → Prop} (h : C_furlongref10_list x0 w R) : CallF Try.prog 53 #[x0] w R :=
  callF_vFun (L := [0, 1, 2, 3, 4, 5, 6, 12, 13, 14, 22]) (args := [x0]) C_furlongref10_list_ent Try.func53 rfl (Eq.mp (show (C_furlongref10_list x0 w R) = vFun Try.prog Try.f53 [0, 1, 2, 3, 4, 5, 6, 12, 13, 14, 22] [x0] w R by kernel_rfl) h)

/-- furlong/furlongref10.someLeases: function 54 -/
def C_furlongref10_someLeases (x0 : Value) (w : World) (R : Value → World → Prop) : Prop :=
  Do Try.prog (Instr.box 92 x0) w fun r_1_1 w_2 =>
  Do Try.prog (Instr.alloc 92 true (.tuple #[])) w_2 fun t2_3 w_4 =>
  LdA (At w_4) 3 r_1_1 fun t8_5 =>
  CallF Try.prog 59 #[t8_5] w_4 fun t9_6 w_7 =>
  Ext t9_6 0 fun t10_8 =>
  Ext t9_6 1 fun t11_9 =>
  DoU Try.prog (Instr.storeAt 92 r_1_1 t10_8) w_7 fun u_10 w_11 =>
  ∃ (I_12 : Nat → Value → Value → Value → World → Prop) (m_13 : Nat), I_12 m_13 (.slice none 0 0) (.slice none 0 0) (.int .i64 0) w_11 ∧
  ∀ m_14, ∀ t3_15, ∀ l_5_16, ∀ t13_17, ∀ w_18, I_12 m_14 t3_15 l_5_16 t13_17 w_18 →
   Bin Try.prog (At w_18) .lss 3 false false t13_17 t11_9 fun t14_19 =>
   If t14_19 (
    Do Try.prog (Instr.alloc 124 true (.tuple #[])) w_18 fun x_6_20 w_21 =>
    LdA (At w_21) 3 r_1_1 fun t16_22 =>
    CallF Try.prog 85 #[t16_22] w_21 fun t17_23 w_24 =>
    Ext t17_23 0 fun t18_25 =>
    Ext t17_23 1 fun t19_26 =>
    DoU Try.prog (Instr.storeAt 92 r_1_1 t18_25) w_24 fun u_27 w_28 =>
    DoU Try.prog (Instr.storeAt 124 x_6_20 t19_26) w_28 fun u_29 w_30 =>
    FAd 2 r_1_1 fun t20_31 =>
    LdC (At w_30) t20_31 fun t21_32 =>
    Bin Try.prog (At w_30) .neq 38 false true t21_32 (.int .i64 0) fun t22_33 =>
    If t22_33 (
     LdA (At w_30) 3 r_1_1 fun t23_34 =>
     DoU Try.prog (Instr.storeAt 92 t2_3 t23_34) w_30 fun u_35 w_36 =>
     LdA (At w_36) 3 t2_3 fun r_37 =>
     R (.tuple #[r_37, (.slice none 0 0)]) w_36) (
     LdA (At w_30) 8 x_6_20 fun t25_38 =>
     Do Try.prog (Instr.buildSlice 47 1 #[(0, t25_38)]) w_30 fun t26_39 w_40 =>
     Do Try.prog (Builtin.append_ #[47, 47] 47 #[l_5_16, t26_39]) w_40 fun t27_41 w_42 =>
     Bin Try.prog (At w_42) .add 3 false true t13_17 (.int .i64 1) fun t28_43 =>
     ∃ m_44, m_44 < m_14 ∧
     I_12 m_44 t3_15 t27_41 t28_43 w_42)) (
    LdA (At w_18) 3 r_1_1 fun t29_45 =>
    DoU Try.prog (Instr.storeAt 92 t2_3 t29_45) w_18 fun u_46 w_47 =>
    LdA (At w_47) 3 t2_3 fun r_48 =>
    R (.tuple #[r_48, l_5_16]) w_47)
theorem C_furlongref10_someLeases_ent : Ent Try.prog 54 := ⟨_, Try.func54, by decide, rfl⟩
theorem C_furlongref10_someLeases_link {x0 : Value} {w : World} {R : Value → World → Prop} (h : C_furlongref10_someLeases x0 w R) : CallF Try.prog 54 #[x0] w R :=
  callF_vFun (L := [0, 1, 2, 3, 4, 5, 6, 12, 13, 14, 22]) (args := [x0]) C_furlongref10_someLeases_ent Try.func54 rfl (Eq.mp (show (C_furlongref10_someLeases x0 w R) = vFun Try.prog Try.f54 [0, 1, 2, 3, 4, 5, 6, 12, 13, 14, 22] [x0] w R by kernel_rfl) h)

/-- furlong/furlongref01.Ints: function 55 -/
def C_furlongref01_Ints (x0 : Value) (x1 : Value) (w : World) (R : Value → World → Prop) : Prop :=
  Len x0 fun t7_1 =>
  Len x1 fun t9_2 =>
  Bin Try.prog (At w) .neq 3 false false t7_1 t9_2 fun t10_3 =>
  If t10_3 (
   R (.bool false) w) (
   Len x0 fun t12_4 =>
   ∃ (I_5 : Nat → Value → Value → World → Prop) (m_6 : Nat), I_5 m_6 (.bool false) (.int .i64 0) w ∧
   ∀ m_7, ∀ t4_8, ∀ t13_9, ∀ w_10, I_5 m_7 t4_8 t13_9 w_10 →
    Bin Try.prog (At w_10) .lss 3 false false t13_9 t12_4 fun t14_11 =>
    If t14_11 (
     ∃ S_12 : World → Prop, S_12 (World.drew w_10) ∧
     IAdS 1 x0 t13_9 fun t18_13 =>
     LdC S_12 t18_13 fun t19_14 =>
     IAdS 1 x1 t13_9 fun t22_15 =>
     LdC S_12 t22_15 fun t23_16 =>
     Bin Try.prog S_12 .neq 3 false false t19_14 t23_16 fun t24_17 =>
     If t24_17 (
      R (.bool false) (World.drew w_10)) (
      Bin Try.prog (At (World.drew w_10)) .add 3 false true t13_9 (.int .i64 1) fun t25_18 =>
      ∃ m_19, m_19 < m_7 ∧
      I_5 m_19 t4_8 t25_18 (World.drew w_10))) (
     R (.bool true) w_10))
theorem C_furlongref01_Ints_ent : Ent Try.prog 55 := ⟨_, Try.func55, by decide, rfl⟩
theorem C_furlongref01_Ints_link {x0 x1 : Value} {w : World} {R : Value → World → Prop} (h : C_furlongref01_Ints x0 x1 w R) : CallF Try.prog 55 #[x0, x1] w R :=
  callF_vFun (L := [0, 1, 4, 5, 10, 12, 13, 14, 24]) (args := [x0, x1]) C_furlongref01_Ints_ent Try.func55 rfl (Eq.mp (show (C_furlongref01_Ints x0 x1 w R) = vFun Try.prog Try.f55 [0, 1, 4, 5, 10, 12, 13, 14, 24] [x0, x1] w R by kernel_rfl) h)

/-- furlong/furlongref10.SameLeases: function 56 -/
def C_furlongref10_SameLeases (x0 : Value) (x1 : Value) (w : World) (R : Value → World → Prop) : Prop :=
  Len x0 fun t7_1 =>
  Len x1 fun t9_2 =>
  Bin Try.prog (At w) .neq 3 false false t7_1 t9_2 fun t10_3 =>
  If t10_3 (
   R (.bool false) w) (
   Len x0 fun t12_4 =>
   ∃ (I_5 : Nat → Value → Value → World → Prop) (m_6 : Nat), I_5 m_6 (.bool false) (.int .i64 0) w ∧
   ∀ m_7, ∀ t4_8, ∀ t13_9, ∀ w_10, I_5 m_7 t4_8 t13_9 w_10 →
    Bin Try.prog (At w_10) .lss 3 false false t13_9 t12_4 fun t14_11 =>
    If t14_11 (
     ∃ S_12 : World → Prop, S_12 (World.drew w_10) ∧
     IAdS 8 x0 t13_9 fun t18_13 =>
     LdA S_12 8 t18_13 fun t19_14 =>
     IAdS 8 x1 t13_9 fun t22_15 =>
     LdA S_12 8 t22_15 fun t23_16 =>
     CallF Try.prog 86 #[t19_14, t23_16] (World.drew w_10) fun t24_17 w_18 =>
     S_12 w_18 ∧
     Un Try.prog S_12 .not t24_17 fun t25_19 =>
     If t25_19 (
      R (.bool false) w_18) (
      Bin Try.prog (At w_18) .add 3 false true t13_9 (.int .i64 1) fun t26_20 =>
      ∃ m_21, m_21 < m_7 ∧
      I_5 m_21 t4_8 t26_20 w_18)) (
     R (.bool true) w_10))
theorem C_furlongref10_SameLeases_ent : Ent Try.prog 56 := ⟨_, Try.func56, by decide, rfl⟩
theorem C_furlongref10_SameLeases_link {x0 x1 : Value} {w : World} {R : Value → World → Prop} (h : C_furlongref10_SameLeases x0 x1 w R) : CallF Try.prog 56 #[x0, x1] w R :=
  callF_vFun (L := [0, 1, 4, 5, 10, 12, 13, 14, 25]) (args := [x0, x1]) C_furlongref10_SameLeases_ent Try.func56 rfl (Eq.mp (show (C_furlongref10_SameLeases x0 x1 w R) = vFun Try.prog Try.f56 [0, 1, 4, 5, 10, 12, 13, 14, 25] [x0, x1] w R by kernel_rfl) h)

/-- furlong/command.whole[furlong/api.State]: function 57 -/
def C_command_whole_api_State (x0 : Value) (x1 : Value) (w : World) (R : Value → World → Prop) : Prop :=
  Do Try.prog (Instr.alloc 58 true (.tuple #[])) w fun x_4_1 w_2 =>
  Bld Try.prog 140 [(0, x0)] fun t10_3 =>
  Do Try.prog (Instr.box 140 t10_3) w_2 fun t11_4 w_5 =>
  CallV Try.prog x1 #[t11_4] w_5 fun t14_6 w_7 =>
  DoU Try.prog (Instr.storeAt 58 x_4_1 t14_6) w_7 fun u_8 w_9 =>
  NilC t11_4 fun t16_10 =>
  FAd 2 t16_10 fun t17_11 =>
  LdC (At w_9) t17_11 fun t18_12 =>
  Bin Try.prog (At w_9) .eql 38 false true t18_12 (.int .i64 0) fun t19_13 =>
  GdP (isB t19_13 true) (fun R => R t11_4) fun t21_14 =>
  GdP (isB t19_13 true) (fun R => NilC t21_14 R) fun t22_15 =>
  GdP (isB t19_13 true) (fun R => FAd 1 t22_15 R) fun t23_16 =>
  GdP (isB t19_13 true) (fun R => LdC (At w_9) t23_16 R) fun t24_17 =>
  GdP (isB t19_13 true) (fun R => R x0) fun t25_18 =>
  GdP (isB t19_13 true) (fun R => Len t25_18 R) fun t26_19 =>
  GdP (isB t19_13 true) (fun R => Bin Try.prog (At w_9) .lss 3 false false t24_17 t26_19 R) fun t27_20 =>
  Pick t19_13 t27_20 (.bool false) fun t28_21 =>
  ∃ J_22 : World → Prop,
  (∀ w_23, J_22 w_23 → (
   NilC t11_4 fun t33_24 =>
   FAd 2 t33_24 fun t34_25 =>
   LdC (At w_23) t34_25 fun t35_26 =>
   Bin Try.prog (At w_23) .neq 38 false true t35_26 (.int .i64 0) fun t36_27 =>
   If t36_27 (
    Do Try.prog (Instr.alloc 58 true (.tuple #[])) w_23 fun none_8_28 w_29 =>
    ∃ S_30 : World → Prop, S_30 (World.drew w_29) ∧
    LdA S_30 8 none_8_28 fun t37_31 =>
    NilC t11_4 fun t39_32 =>
    FAd 1 t39_32 fun t40_33 =>
    LdC S_30 t40_33 fun t41_34 =>
    NilC t11_4 fun t43_35 =>
    FAd 2 t43_35 fun t44_36 =>
    LdC S_30 t44_36 fun t45_37 =>
    DoU Try.prog (Instr.storeAt 58 x_4_1 t37_31) (World.drew w_29) fun u_38 w_39 =>
    S_30 w_39 ∧
    LdA (At w_39) 8 x_4_1 fun r_40 =>
    R (.tuple #[r_40, t41_34, t45_37]) w_39) (
    LdA (At w_23) 8 x_4_1 fun t46_41 =>
    DoU Try.prog (Instr.storeAt 58 x_4_1 t46_41) w_23 fun u_42 w_43 =>
    LdA (At w_43) 8 x_4_1 fun r_44 =>
    R (.tuple #[r_44, (.int .i64 0), (.int .i64 0)]) w_43))) ∧
  If t28_21 (
   NilC t11_4 fun t30_45 =>
   FAd 2 t30_45 fun t31_46 =>
   DoU Try.prog (Instr.storeAt 38 t31_46 (.int .i64 7)) w_9 fun u_47 w_48 =>
   J_22 w_48) (
   J_22 w_9)
theorem C_command_whole_api_State_ent : Ent Try.prog 57 := ⟨_, Try.func57, by decide, rfl⟩
theorem C_command_whole_api_State_link {x0 x1 : Value} {w : World} {R : Value → World → Prop} (h : C_command_whole_api_State x0 x1 w R) : CallF Try.prog 57 #[x0, x1] w R :=
  callF_vFun (L := [0, 1, 4, 5, 6, 7, 8, 28, 36]) (args := [x0, x1]) C_command_whole_api_State_ent Try.func57 rfl (Eq.mp (show (C_command_whole_api_State x0 x1 w R) = vFun Try.prog Try.f57 [0, 1, 4, 5, 6, 7, 8, 28, 36] [x0, x1] w R by kernel_rfl) h)

/-- (*furlong/command.reader).state: function 58 -/
def C_command_reader_state (x0 : Value) (w : World) (R : Value → World → Prop) : Prop :=
  Do Try.prog (Instr.alloc 58 true (.tuple #[])) w fun t2_1 w_2 =>
  CallF Try.prog 77 #[x0] w_2 fun t4_3 w_4 =>
  CallF Try.prog 77 #[x0] w_4 fun t6_5 w_6 =>
  CallF Try.prog 77 #[x0] w_6 fun t8_7 w_8 =>
  CallF Try.prog 87 #[x0, (.func (.func 88) #[x0] #[])] w_8 fun t12_9 w_10 =>
  CallF Try.prog 89 #[x0, (.func (.func 90) #[x0] #[])] w_10 fun t16_11 w_12 =>
  CallF Try.prog 91 #[x0, (.func (.func 92) #[x0] #[])] w_12 fun t20_13 w_14 =>
  CallF Try.prog 83 #[x0, (.func (.func 84) #[x0] #[])] w_14 fun t24_15 w_16 =>
  CallF Try.prog 93 #[x0, (.func (.func 94) #[x0] #[])] w_16 fun t28_17 w_18 =>
  Bld Try.prog 58 [(0, t4_3), (1, t6_5), (2, t8_7), (3, t12_9), (4, t16_11), (5, t20_13), (6, t24_15), (7, t28_17)] fun t29_19 =>
  DoU Try.prog (Instr.storeAt 58 t2_1 t29_19) w_18 fun u_20 w_21 =>
  LdA (At w_21) 8 t2_1 fun r_22 =>
  R r_22 w_21
theorem C_command_reader_state_ent : Ent Try.prog 58 := ⟨_, Try.func58, by decide, rfl⟩
theorem C_command_reader_state_link {x0 : Value} {w : World} {R : Value → World → Prop} (h : C_command_reader_state x0 w R) : CallF Try.prog 58 #[x0] w R :=
  callF_vFun (L := [0, 2]) (args := [x0]) C_command_reader_state_ent Try.func58 rfl (Eq.mp (show (C_command_reader_state x0 w R) = vFun Try.prog Try.f58 [0, 2] [x0] w R by kernel_rfl) h)

/-- furlong/furlongref10.total: function 59 -/
def C_furlongref10_total (x0 : Value) (w : World) (R : Value → World → Prop) : Prop :=
  Do Try.prog (Instr.box 92 x0) w fun r_1_1 w_2 =>
  Do Try.prog (Instr.alloc 92 true (.tuple #[])) w_2 fun t2_3 w_4 =>
  FAd 2 r_1_1 fun t8_5 =>
  LdC (At w_4) t8_5 fun t9_6 =>
  Bin Try.prog (At w_4) .neq 38 false true t9_6 (.int .i64 0) fun t10_7 =>
  If t10_7 (
   LdA (At w_4) 3 r_1_1 fun t11_8 =>
   DoU Try.prog (Instr.storeAt 92 t2_3 t11_8) w_4 fun u_9 w_10 =>
   LdA (At w_10) 3 t2_3 fun r_11 =>
   R (.tuple #[r_11, (.int .i64 0)]) w_10) (
   FAd 1 r_1_1 fun t12_12 =>
   LdC (At w_4) t12_12 fun t13_13 =>
   FAd 0 r_1_1 fun t15_14 =>
   LdC (At w_4) t15_14 fun t16_15 =>
   FAd 1 r_1_1 fun t17_16 =>
   LdC (At w_4) t17_16 fun t18_17 =>
   CallF Try.prog 81 #[t16_15, t18_17] w_4 fun t19_18 w_19 =>
   Ext t19_18 0 fun t20_20 =>
   Ext t19_18 1 fun t21_21 =>
   Ext t19_18 2 fun t22_22 =>
   FAd 1 r_1_1 fun t24_23 =>
   DoU Try.prog (Instr.storeAt 3 t24_23 t21_21) w_19 fun u_24 w_25 =>
   FAd 2 r_1_1 fun t26_26 =>
   DoU Try.prog (Instr.storeAt 38 t26_26 t22_22) w_25 fun u_27 w_28 =>
   Bin Try.prog (At w_28) .eql 38 false true t22_22 (.int .i64 0) fun t28_29 =>
   GdP (isB t28_29 true) (fun R => R t20_20) fun t30_30 =>
   GdP (isB t28_29 true) (fun R => Bin Try.prog (At w_28) .gtr 75 false true t30_30 (.int .u64 1024) R) fun t31_31 =>
   Pick t28_29 t31_31 (.bool false) fun t32_32 =>
   If t32_32 (
    FAd 1 r_1_1 fun t34_33 =>
    DoU Try.prog (Instr.storeAt 3 t34_33 t13_13) w_28 fun u_34 w_35 =>
    FAd 2 r_1_1 fun t35_36 =>
    DoU Try.prog (Instr.storeAt 38 t35_36 (.int .i64 3)) w_35 fun u_37 w_38 =>
    LdA (At w_38) 3 r_1_1 fun t36_39 =>
    DoU Try.prog (Instr.storeAt 92 t2_3 t36_39) w_38 fun u_40 w_41 =>
    LdA (At w_41) 3 t2_3 fun r_42 =>
    R (.tuple #[r_42, (.int .i64 0)]) w_41) (
    LdA (At w_28) 3 r_1_1 fun t37_43 =>
    ConvI .i64 t20_20 fun t39_44 =>
    DoU Try.prog (Instr.storeAt 92 t2_3 t37_43) w_28 fun u_45 w_46 =>
    LdA (At w_46) 3 t2_3 fun r_47 =>
    R (.tuple #[r_47, t39_44]) w_46))
theorem C_furlongref10_total_ent : Ent Try.prog 59 := ⟨_, Try.func59, by decide, rfl⟩
theorem C_furlongref10_total_link {x0 : Value} {w : World} {R : Value → World → Prop} (h : C_furlongref10_total x0 w R) : CallF Try.prog 59 #[x0] w R :=
  callF_vFun (L := [0, 1, 2, 3, 4, 5, 6, 7, 10, 32]) (args := [x0]) C_furlongref10_total_ent Try.func59 rfl (Eq.mp (show (C_furlongref10_total x0 w R) = vFun Try.prog Try.f59 [0, 1, 2, 3, 4, 5, 6, 7, 10, 32] [x0] w R by kernel_rfl) h)

/-- furlong/furlongref05.Same: function 60 -/
def C_furlongref05_Same (x0 : Value) (x1 : Value) (w : World) (R : Value → World → Prop) : Prop :=
  Len x0 fun t7_1 =>
  Len x1 fun t9_2 =>
  Bin Try.prog (At w) .neq 3 false false t7_1 t9_2 fun t10_3 =>
  If t10_3 (
   R (.bool false) w) (
   Len x0 fun t12_4 =>
   ∃ (I_5 : Nat → Value → Value → World → Prop) (m_6 : Nat), I_5 m_6 (.bool false) (.int .i64 0) w ∧
   ∀ m_7, ∀ t4_8, ∀ t13_9, ∀ w_10, I_5 m_7 t4_8 t13_9 w_10 →
    Bin Try.prog (At w_10) .lss 3 false false t13_9 t12_4 fun t14_11 =>
    If t14_11 (
     ∃ S_12 : World → Prop, S_12 (World.drew w_10) ∧
     IAdS 7 x0 t13_9 fun t18_13 =>
     LdA S_12 7 t18_13 fun t19_14 =>
     IAdS 7 x1 t13_9 fun t22_15 =>
     LdA S_12 7 t22_15 fun t23_16 =>
     Bin Try.prog S_12 .neq 25 false false t19_14 t23_16 fun t24_17 =>
     If t24_17 (
      R (.bool false) (World.drew w_10)) (
      Bin Try.prog (At (World.drew w_10)) .add 3 false true t13_9 (.int .i64 1) fun t25_18 =>
      ∃ m_19, m_19 < m_7 ∧
      I_5 m_19 t4_8 t25_18 (World.drew w_10))) (
     R (.bool true) w_10))
theorem C_furlongref05_Same_ent : Ent Try.prog 60 := ⟨_, Try.func60, by decide, rfl⟩
theorem C_furlongref05_Same_link {x0 x1 : Value} {w : World} {R : Value → World → Prop} (h : C_furlongref05_Same x0 x1 w R) : CallF Try.prog 60 #[x0, x1] w R :=
  callF_vFun (L := [0, 1, 4, 5, 10, 12, 13, 14, 24]) (args := [x0, x1]) C_furlongref05_Same_ent Try.func60 rfl (Eq.mp (show (C_furlongref05_Same x0 x1 w R) = vFun Try.prog Try.f60 [0, 1, 4, 5, 10, 12, 13, 14, 24] [x0, x1] w R by kernel_rfl) h)

/-- (*furlong/command.writer).list: function 61 -/
def C_command_writer_list (x0 : Value) (x1 : Value) (w : World) (R : Value → World → Prop) : Prop :=
  Len x1 fun t8_1 =>
  CallF Try.prog 95 #[x0, t8_1] w fun t9_2 w_3 =>
  Len x1 fun t11_4 =>
  ∃ (I_5 : Nat → Value → World → Prop) (m_6 : Nat), I_5 m_6 (.int .i64 0) w_3 ∧
  ∀ m_7, ∀ t12_8, ∀ w_9, I_5 m_7 t12_8 w_9 →
   Bin Try.prog (At w_9) .lss 3 false false t12_8 t11_4 fun t13_10 =>
   If t13_10 (
    IAdS 1 x1 t12_8 fun t14_11 =>
    LdC (At w_9) t14_11 fun t15_12 =>
    Do Try.prog (Instr.buildSlice 81 1 #[(0, t15_12)]) w_9 fun t18_13 w_14 =>
    CallF Try.prog 31 #[x0, t18_13] w_14 fun t19_15 w_16 =>
    Bin Try.prog (At w_16) .add 3 false true t12_8 (.int .i64 1) fun t20_17 =>
    ∃ m_18, m_18 < m_7 ∧
    I_5 m_18 t20_17 w_16) (
    R (.tuple #[]) w_9)
theorem C_command_writer_list_ent : Ent Try.prog 61 := ⟨_, Try.func61, by decide, rfl⟩
theorem C_command_writer_list_link {x0 x1 : Value} {w : World} {R : Value → World → Prop} (h : C_command_writer_list x0 x1 w R) : CallF Try.prog 61 #[x0, x1] w R :=
  callF_vFun (L := [0, 1, 5, 10, 11, 12, 13]) (args := [x0, x1]) C_command_writer_list_ent Try.func61 rfl (Eq.mp (show (C_command_writer_list x0 x1 w R) = vFun Try.prog Try.f61 [0, 1, 5, 10, 11, 12, 13] [x0, x1] w R by kernel_rfl) h)

/-- furlong/command.each[furlong/api.Lease]: function 62 -/
def C_command_each_api_Lease (x0 : Value) (x1 : Value) (x2 : Value) (w : World) (R : Value → World → Prop) : Prop :=
  Len x1 fun t10_1 =>
  CallF Try.prog 95 #[x0, t10_1] w fun t11_2 w_3 =>
  Len x1 fun t13_4 =>
  ∃ (I_5 : Nat → Value → World → Prop) (m_6 : Nat), I_5 m_6 (.int .i64 0) w_3 ∧
  ∀ m_7, ∀ t14_8, ∀ w_9, I_5 m_7 t14_8 w_9 →
   Bin Try.prog (At w_9) .lss 3 false false t14_8 t13_4 fun t15_10 =>
   If t15_10 (
    IAdS 8 x1 t14_8 fun t16_11 =>
    LdA (At w_9) 8 t16_11 fun t17_12 =>
    Do Try.prog (Instr.alloc 124 true (.tuple #[])) w_9 fun x_7_13 w_14 =>
    DoU Try.prog (Instr.storeAt 124 x_7_13 t17_12) w_14 fun u_15 w_16 =>
    LdA (At w_16) 8 x_7_13 fun t19_17 =>
    CallV Try.prog x2 #[t19_17] w_16 fun t20_18 w_19 =>
    Bin Try.prog (At w_19) .add 3 false true t14_8 (.int .i64 1) fun t21_20 =>
    ∃ m_21, m_21 < m_7 ∧
    I_5 m_21 t21_20 w_19) (
    R (.tuple #[]) w_9)
theorem C_command_each_api_Lease_ent : Ent Try.prog 62 := ⟨_, Try.func62, by decide, rfl⟩
theorem C_command_each_api_Lease_link {x0 x1 x2 : Value} {w : World} {R : Value → World → Prop} (h : C_command_each_api_Lease x0 x1 x2 w R) : CallF Try.prog 62 #[x0, x1, x2] w R :=
  callF_vFun (L := [0, 1, 2, 7, 12, 13, 14, 15]) (args := [x0, x1, x2]) C_command_each_api_Lease_ent Try.func62 rfl (Eq.mp (show (C_command_each_api_Lease x0 x1 x2 w R) = vFun Try.prog Try.f62 [0, 1, 2, 7, 12, 13, 14, 15] [x0, x1, x2] w R by kernel_rfl) h)

/-- (*furlong/command.writer).lease: function 63 -/
def C_command_writer_lease (x0 : Value) (x1 : Value) (w : World) (R : Value → World → Prop) : Prop :=
  Do Try.prog (Instr.box 124 x1) w fun x_3_1 w_2 =>
  FAd 0 x_3_1 fun t6_3 =>
  LdC (At w_2) t6_3 fun t7_4 =>
  FAd 1 x_3_1 fun t8_5 =>
  LdC (At w_2) t8_5 fun t9_6 =>
  FAd 2 x_3_1 fun t10_7 =>
  LdC (At w_2) t10_7 fun t11_8 =>
  Do Try.prog (Instr.buildSlice 81 3 #[(0, t7_4), (1, t9_6), (2, t11_8)]) w_2 fun t12_9 w_10 =>
  CallF Try.prog 31 #[x0, t12_9] w_10 fun t13_11 w_12 =>
  FAd 3 x_3_1 fun t15_13 =>
  LdC (At w_12) t15_13 fun t16_14 =>
  CallF Try.prog 61 #[x0, t16_14] w_12 fun t17_15 w_16 =>
  FAd 4 x_3_1 fun t19_17 =>
  LdC (At w_16) t19_17 fun t20_18 =>
  FAd 5 x_3_1 fun t21_19 =>
  LdC (At w_16) t21_19 fun t22_20 =>
  FAd 6 x_3_1 fun t23_21 =>
  LdC (At w_16) t23_21 fun t24_22 =>
  Do Try.prog (Instr.buildSlice 81 3 #[(0, t20_18), (1, t22_20), (2, t24_22)]) w_16 fun t25_23 w_24 =>
  CallF Try.prog 31 #[x0, t25_23] w_24 fun t26_25 w_26 =>
  FAd 7 x_3_1 fun t27_27 =>
  LdC (At w_26) t27_27 fun t28_28 =>
  ∃ J_29 : Value → World → Prop,
  (∀ stop_4_30, ∀ w_31, J_29 stop_4_30 w_31 → (
   CallF Try.prog 32 #[x0, stop_4_30] w_31 fun t31_32 w_33 =>
   R (.tuple #[]) w_33)) ∧
  If t28_28 (
   J_29 (.int .u64 1) w_26) (
   J_29 (.int .u64 0) w_26)
theorem C_command_writer_lease_ent : Ent Try.prog 63 := ⟨_, Try.func63, by decide, rfl⟩
theorem C_command_writer_lease_link {x0 x1 : Value} {w : World} {R : Value → World → Prop} (h : C_command_writer_lease x0 x1 w R) : CallF Try.prog 63 #[x0, x1] w R :=
  callF_vFun (L := [0, 1, 3, 4, 28]) (args := [x0, x1]) C_command_writer_lease_ent Try.func63 rfl (Eq.mp (show (C_command_writer_lease x0 x1 w R) = vFun Try.prog Try.f63 [0, 1, 3, 4, 28] [x0, x1] w R by kernel_rfl) h)

/-- furlong/furlongref10.short: function 64 -/
def C_furlongref10_short (x0 : Value) (w : World) (R : Value → World → Prop) : Prop :=
  Len x0 fun t6_1 =>
  ∃ (I_2 : Nat → Value → Value → World → Prop) (m_3 : Nat), I_2 m_3 (.bool false) (.int .i64 0) w ∧
  ∀ m_4, ∀ t2_5, ∀ t7_6, ∀ w_7, I_2 m_4 t2_5 t7_6 w_7 →
   Bin Try.prog (At w_7) .lss 3 false false t7_6 t6_1 fun t8_8 =>
   If t8_8 (
    IAdS 8 x0 t7_6 fun t9_9 =>
    LdA (At w_7) 8 t9_9 fun t10_10 =>
    Do Try.prog (Instr.alloc 124 true (.tuple #[])) w_7 fun x_4_11 w_12 =>
    DoU Try.prog (Instr.storeAt 124 x_4_11 t10_10) w_12 fun u_13 w_14 =>
    FAd 3 x_4_11 fun t11_15 =>
    LdC (At w_14) t11_15 fun t12_16 =>
    Len t12_16 fun t13_17 =>
    Bin Try.prog (At w_14) .gtr 3 false true t13_17 (.int .i64 1024) fun t14_18 =>
    If t14_18 (
     R (.bool false) w_14) (
     Bin Try.prog (At w_14) .add 3 false true t7_6 (.int .i64 1) fun t15_19 =>
     ∃ m_20, m_20 < m_4 ∧
     I_2 m_20 t2_5 t15_19 w_14)) (
    Len x0 fun t17_21 =>
    Bin Try.prog (At w_7) .leq 3 false true t17_21 (.int .i64 1024) fun t18_22 =>
    R t18_22 w_7)
theorem C_furlongref10_short_ent : Ent Try.prog 64 := ⟨_, Try.func64, by decide, rfl⟩
theorem C_furlongref10_short_link {x0 : Value} {w : World} {R : Value → World → Prop} (h : C_furlongref10_short x0 w R) : CallF Try.prog 64 #[x0] w R :=
  callF_vFun (L := [0, 2, 4, 5, 6, 7, 8, 14]) (args := [x0]) C_furlongref10_short_ent Try.func64 rfl (Eq.mp (show (C_furlongref10_short x0 w R) = vFun Try.prog Try.f64 [0, 2, 4, 5, 6, 7, 8, 14] [x0] w R by kernel_rfl) h)

/-- furlong/furlongref10.numbers: function 65 -/
def C_furlongref10_numbers (x0 : Value) (w : World) (R : Value → World → Prop) : Prop :=
  Len x0 fun t7_1 =>
  CallF Try.prog 73 #[t7_1] w fun t8_2 w_3 =>
  Len x0 fun t10_4 =>
  ∃ (I_5 : Nat → Value → Value → World → Prop) (m_6 : Nat), I_5 m_6 t8_2 (.int .i64 0) w_3 ∧
  ∀ m_7, ∀ b_3_8, ∀ t11_9, ∀ w_10, I_5 m_7 b_3_8 t11_9 w_10 →
   Bin Try.prog (At w_10) .lss 3 false false t11_9 t10_4 fun t12_11 =>
   If t12_11 (
    IAdS 1 x0 t11_9 fun t13_12 =>
    LdC (At w_10) t13_12 fun t14_13 =>
    CallF Try.prog 76 #[t14_13] w_10 fun t17_14 w_15 =>
    Do Try.prog (Builtin.append_ #[37, 37] 37 #[b_3_8, t17_14]) w_15 fun t18_16 w_17 =>
    Bin Try.prog (At w_17) .add 3 false true t11_9 (.int .i64 1) fun t19_18 =>
    ∃ m_19, m_19 < m_7 ∧
    I_5 m_19 t18_16 t19_18 w_17) (
    R b_3_8 w_10)
theorem C_furlongref10_numbers_ent : Ent Try.prog 65 := ⟨_, Try.func65, by decide, rfl⟩
theorem C_furlongref10_numbers_link {x0 : Value} {w : World} {R : Value → World → Prop} (h : C_furlongref10_numbers x0 w R) : CallF Try.prog 65 #[x0] w R :=
  callF_vFun (L := [0, 2, 3, 5, 9, 10, 11, 12]) (args := [x0]) C_furlongref10_numbers_ent Try.func65 rfl (Eq.mp (show (C_furlongref10_numbers x0 w R) = vFun Try.prog Try.f65 [0, 2, 3, 5, 9, 10, 11, 12] [x0] w R by kernel_rfl) h)

/-- furlong/furlongref10.leases: function 66 -/
def C_furlongref10_leases (x0 : Value) (w : World) (R : Value → World → Prop) : Prop :=
  Len x0 fun t7_1 =>
  CallF Try.prog 73 #[t7_1] w fun t8_2 w_3 =>
  Len x0 fun t10_4 =>
  ∃ (I_5 : Nat → Value → Value → World → Prop) (m_6 : Nat), I_5 m_6 t8_2 (.int .i64 0) w_3 ∧
  ∀ m_7, ∀ b_3_8, ∀ t11_9, ∀ w_10, I_5 m_7 b_3_8 t11_9 w_10 →
   Bin Try.prog (At w_10) .lss 3 false false t11_9 t10_4 fun t12_11 =>
   If t12_11 (
    IAdS 8 x0 t11_9 fun t13_12 =>
    LdA (At w_10) 8 t13_12 fun t14_13 =>
    Do Try.prog (Instr.alloc 124 true (.tuple #[])) w_10 fun x_5_14 w_15 =>
    DoU Try.prog (Instr.storeAt 124 x_5_14 t14_13) w_15 fun u_16 w_17 =>
    LdA (At w_17) 8 x_5_14 fun t16_18 =>
    CallF Try.prog 96 #[t16_18] w_17 fun t17_19 w_20 =>
    Do Try.prog (Builtin.append_ #[37, 37] 37 #[b_3_8, t17_19]) w_20 fun t18_21 w_22 =>
    Bin Try.prog (At w_22) .add 3 false true t11_9 (.int .i64 1) fun t19_23 =>
    ∃ m_24, m_24 < m_7 ∧
    I_5 m_24 t18_21 t19_23 w_22) (
    R b_3_8 w_10)
theorem C_furlongref10_leases_ent : Ent Try.prog 66 := ⟨_, Try.func66, by decide, rfl⟩
theorem C_furlongref10_leases_link {x0 : Value} {w : World} {R : Value → World → Prop} (h : C_furlongref10_leases x0 w R) : CallF Try.prog 66 #[x0] w R :=
  callF_vFun (L := [0, 2, 3, 5, 9, 10, 11, 12]) (args := [x0]) C_furlongref10_leases_ent Try.func66 rfl (Eq.mp (show (C_furlongref10_leases x0 w R) = vFun Try.prog Try.f66 [0, 2, 3, 5, 9, 10, 11, 12] [x0] w R by kernel_rfl) h)

/-- furlong/furlongref10.TwinLeases: function 67 -/
def C_furlongref10_TwinLeases (x0 : Value) (w : World) (R : Value → World → Prop) : Prop :=
  Len x0 fun t7_1 =>
  ∃ (I_2 : Nat → Value → Value → World → Prop) (m_3 : Nat), I_2 m_3 (.slice none 0 0) (.int .i64 0) w ∧
  ∀ m_4, ∀ m_3_5, ∀ t8_6, ∀ w_7, I_2 m_4 m_3_5 t8_6 w_7 →
   Bin Try.prog (At w_7) .lss 3 false false t8_6 t7_1 fun t9_8 =>
   If t9_8 (
    IAdS 8 x0 t8_6 fun t10_9 =>
    LdA (At w_7) 8 t10_9 fun t11_10 =>
    Do Try.prog (Instr.alloc 124 true (.tuple #[])) w_7 fun x_5_11 w_12 =>
    DoU Try.prog (Instr.storeAt 124 x_5_11 t11_10) w_12 fun u_13 w_14 =>
    Do Try.prog (Instr.buildSlice 28 0 #[]) w_14 fun t12_15 w_16 =>
    FAd 3 x_5_11 fun t13_17 =>
    LdC (At w_16) t13_17 fun t14_18 =>
    Do Try.prog (Builtin.append_ #[28, 28] 28 #[t12_15, t14_18]) w_16 fun t15_19 w_20 =>
    FAd 3 x_5_11 fun t16_21 =>
    DoU Try.prog (Instr.storeAt 28 t16_21 t15_19) w_20 fun u_22 w_23 =>
    LdA (At w_23) 8 x_5_11 fun t18_24 =>
    Do Try.prog (Instr.buildSlice 47 1 #[(0, t18_24)]) w_23 fun t19_25 w_26 =>
    Do Try.prog (Builtin.append_ #[47, 47] 47 #[m_3_5, t19_25]) w_26 fun t20_27 w_28 =>
    Bin Try.prog (At w_28) .add 3 false true t8_6 (.int .i64 1) fun t21_29 =>
    ∃ m_30, m_30 < m_4 ∧
    I_2 m_30 t20_27 t21_29 w_28) (
    R m_3_5 w_7)
theorem C_furlongref10_TwinLeases_ent : Ent Try.prog 67 := ⟨_, Try.func67, by decide, rfl⟩
theorem C_furlongref10_TwinLeases_link {x0 : Value} {w : World} {R : Value → World → Prop} (h : C_furlongref10_TwinLeases x0 w R) : CallF Try.prog 67 #[x0] w R :=
  callF_vFun (L := [0, 2, 3, 5, 6, 7, 8, 9]) (args := [x0]) C_furlongref10_TwinLeases_ent Try.func67 rfl (Eq.mp (show (C_furlongref10_TwinLeases x0 w R) = vFun Try.prog Try.f67 [0, 2, 3, 5, 6, 7, 8, 9] [x0] w R by kernel_rfl) h)

/-- furlong/command.each[furlong/api.Queue]: function 68 -/
def C_command_each_api_Queue (x0 : Value) (x1 : Value) (x2 : Value) (w : World) (R : Value → World → Prop) : Prop :=
  Len x1 fun t10_1 =>
  CallF Try.prog 95 #[x0, t10_1] w fun t11_2 w_3 =>
  Len x1 fun t13_4 =>
  ∃ (I_5 : Nat → Value → World → Prop) (m_6 : Nat), I_5 m_6 (.int .i64 0) w_3 ∧
  ∀ m_7, ∀ t14_8, ∀ w_9, I_5 m_7 t14_8 w_9 →
   Bin Try.prog (At w_9) .lss 3 false false t14_8 t13_4 fun t15_10 =>
   If t15_10 (
    IAdS 7 x1 t14_8 fun t16_11 =>
    LdA (At w_9) 7 t16_11 fun t17_12 =>
    Do Try.prog (Instr.alloc 25 true (.tuple #[])) w_9 fun x_7_13 w_14 =>
    DoU Try.prog (Instr.storeAt 25 x_7_13 t17_12) w_14 fun u_15 w_16 =>
    LdA (At w_16) 7 x_7_13 fun t19_17 =>
    CallV Try.prog x2 #[t19_17] w_16 fun t20_18 w_19 =>
    Bin Try.prog (At w_19) .add 3 false true t14_8 (.int .i64 1) fun t21_20 =>
    ∃ m_21, m_21 < m_7 ∧
    I_5 m_21 t21_20 w_19) (
    R (.tuple #[]) w_9)
theorem C_command_each_api_Queue_ent : Ent Try.prog 68 := ⟨_, Try.func68, by decide, rfl⟩
theorem C_command_each_api_Queue_link {x0 x1 x2 : Value} {w : World} {R : Value → World → Prop} (h : C_command_each_api_Queue x0 x1 x2 w R) : CallF Try.prog 68 #[x0, x1, x2] w R :=
  callF_vFun (L := [0, 1, 2, 7, 12, 13, 14, 15]) (args := [x0, x1, x2]) C_command_each_api_Queue_ent Try.func68 rfl (Eq.mp (show (C_command_each_api_Queue x0 x1 x2 w R) = vFun Try.prog Try.f68 [0, 1, 2, 7, 12, 13, 14, 15] [x0, x1, x2] w R by kernel_rfl) h)

/-- furlong/command.each[furlong/api.Node]: function 69 -/
def C_command_each_api_Node (x0 : Value) (x1 : Value) (x2 : Value) (w : World) (R : Value → World → Prop) : Prop :=
  Len x1 fun t10_1 =>
  CallF Try.prog 95 #[x0, t10_1] w fun t11_2 w_3 =>
  Len x1 fun t13_4 =>
  ∃ (I_5 : Nat → Value → World → Prop) (m_6 : Nat), I_5 m_6 (.int .i64 0) w_3 ∧
  ∀ m_7, ∀ t14_8, ∀ w_9, I_5 m_7 t14_8 w_9 →
   Bin Try.prog (At w_9) .lss 3 false false t14_8 t13_4 fun t15_10 =>
   If t15_10 (
    IAdS 5 x1 t14_8 fun t16_11 =>
    LdA (At w_9) 5 t16_11 fun t17_12 =>
    Do Try.prog (Instr.alloc 27 true (.tuple #[])) w_9 fun x_7_13 w_14 =>
    DoU Try.prog (Instr.storeAt 27 x_7_13 t17_12) w_14 fun u_15 w_16 =>
    LdA (At w_16) 5 x_7_13 fun t19_17 =>
    CallV Try.prog x2 #[t19_17] w_16 fun t20_18 w_19 =>
    Bin Try.prog (At w_19) .add 3 false true t14_8 (.int .i64 1) fun t21_20 =>
    ∃ m_21, m_21 < m_7 ∧
    I_5 m_21 t21_20 w_19) (
    R (.tuple #[]) w_9)
theorem C_command_each_api_Node_ent : Ent Try.prog 69 := ⟨_, Try.func69, by decide, rfl⟩
theorem C_command_each_api_Node_link {x0 x1 x2 : Value} {w : World} {R : Value → World → Prop} (h : C_command_each_api_Node x0 x1 x2 w R) : CallF Try.prog 69 #[x0, x1, x2] w R :=
  callF_vFun (L := [0, 1, 2, 7, 12, 13, 14, 15]) (args := [x0, x1, x2]) C_command_each_api_Node_ent Try.func69 rfl (Eq.mp (show (C_command_each_api_Node x0 x1 x2 w R) = vFun Try.prog Try.f69 [0, 1, 2, 7, 12, 13, 14, 15] [x0, x1, x2] w R by kernel_rfl) h)

/-- furlong/command.each[furlong/api.Task]: function 70 -/
def C_command_each_api_Task (x0 : Value) (x1 : Value) (x2 : Value) (w : World) (R : Value → World → Prop) : Prop :=
  Len x1 fun t10_1 =>
  CallF Try.prog 95 #[x0, t10_1] w fun t11_2 w_3 =>
  Len x1 fun t13_4 =>
  ∃ (I_5 : Nat → Value → World → Prop) (m_6 : Nat), I_5 m_6 (.int .i64 0) w_3 ∧
  ∀ m_7, ∀ t14_8, ∀ w_9, I_5 m_7 t14_8 w_9 →
   Bin Try.prog (At w_9) .lss 3 false false t14_8 t13_4 fun t15_10 =>
   If t15_10 (
    IAdS 7 x1 t14_8 fun t16_11 =>
    LdA (At w_9) 7 t16_11 fun t17_12 =>
    Do Try.prog (Instr.alloc 30 true (.tuple #[])) w_9 fun x_7_13 w_14 =>
    DoU Try.prog (Instr.storeAt 30 x_7_13 t17_12) w_14 fun u_15 w_16 =>
    LdA (At w_16) 7 x_7_13 fun t19_17 =>
    CallV Try.prog x2 #[t19_17] w_16 fun t20_18 w_19 =>
    Bin Try.prog (At w_19) .add 3 false true t14_8 (.int .i64 1) fun t21_20 =>
    ∃ m_21, m_21 < m_7 ∧
    I_5 m_21 t21_20 w_19) (
    R (.tuple #[]) w_9)
theorem C_command_each_api_Task_ent : Ent Try.prog 70 := ⟨_, Try.func70, by decide, rfl⟩
theorem C_command_each_api_Task_link {x0 x1 x2 : Value} {w : World} {R : Value → World → Prop} (h : C_command_each_api_Task x0 x1 x2 w R) : CallF Try.prog 70 #[x0, x1, x2] w R :=
  callF_vFun (L := [0, 1, 2, 7, 12, 13, 14, 15]) (args := [x0, x1, x2]) C_command_each_api_Task_ent Try.func70 rfl (Eq.mp (show (C_command_each_api_Task x0 x1 x2 w R) = vFun Try.prog Try.f70 [0, 1, 2, 7, 12, 13, 14, 15] [x0, x1, x2] w R by kernel_rfl) h)

/-- furlong/command.each[furlong/api.Hunger]: function 71 -/
def C_command_each_api_Hunger (x0 : Value) (x1 : Value) (x2 : Value) (w : World) (R : Value → World → Prop) : Prop :=
  Len x1 fun t10_1 =>
  CallF Try.prog 95 #[x0, t10_1] w fun t11_2 w_3 =>
  Len x1 fun t13_4 =>
  ∃ (I_5 : Nat → Value → World → Prop) (m_6 : Nat), I_5 m_6 (.int .i64 0) w_3 ∧
  ∀ m_7, ∀ t14_8, ∀ w_9, I_5 m_7 t14_8 w_9 →
   Bin Try.prog (At w_9) .lss 3 false false t14_8 t13_4 fun t15_10 =>
   If t15_10 (
    IAdS 2 x1 t14_8 fun t16_11 =>
    LdA (At w_9) 2 t16_11 fun t17_12 =>
    Do Try.prog (Instr.alloc 119 true (.tuple #[])) w_9 fun x_7_13 w_14 =>
    DoU Try.prog (Instr.storeAt 119 x_7_13 t17_12) w_14 fun u_15 w_16 =>
    LdA (At w_16) 2 x_7_13 fun t19_17 =>
    CallV Try.prog x2 #[t19_17] w_16 fun t20_18 w_19 =>
    Bin Try.prog (At w_19) .add 3 false true t14_8 (.int .i64 1) fun t21_20 =>
    ∃ m_21, m_21 < m_7 ∧
    I_5 m_21 t21_20 w_19) (
    R (.tuple #[]) w_9)
theorem C_command_each_api_Hunger_ent : Ent Try.prog 71 := ⟨_, Try.func71, by decide, rfl⟩
theorem C_command_each_api_Hunger_link {x0 x1 x2 : Value} {w : World} {R : Value → World → Prop} (h : C_command_each_api_Hunger x0 x1 x2 w R) : CallF Try.prog 71 #[x0, x1, x2] w R :=
  callF_vFun (L := [0, 1, 2, 7, 12, 13, 14, 15]) (args := [x0, x1, x2]) C_command_each_api_Hunger_ent Try.func71 rfl (Eq.mp (show (C_command_each_api_Hunger x0 x1 x2 w R) = vFun Try.prog Try.f71 [0, 1, 2, 7, 12, 13, 14, 15] [x0, x1, x2] w R by kernel_rfl) h)

/-- furlong/command.EncodeState$1: function 72 -/
def C_command_EncodeState_1 (x0 : Value) (x1 : Value) (w : World) (R : Value → World → Prop) : Prop :=
  Do Try.prog (Instr.box 119 x0) w fun h_2_1 w_2 =>
  LdC (At w_2) x1 fun t3_3 =>
  FAd 0 h_2_1 fun t4_4 =>
  LdC (At w_2) t4_4 fun t5_5 =>
  FAd 1 h_2_1 fun t6_6 =>
  LdC (At w_2) t6_6 fun t7_7 =>
  Do Try.prog (Instr.buildSlice 81 2 #[(0, t5_5), (1, t7_7)]) w_2 fun t8_8 w_9 =>
  CallF Try.prog 31 #[t3_3, t8_8] w_9 fun t9_10 w_11 =>
  R (.tuple #[]) w_11
theorem C_command_EncodeState_1_ent : Ent Try.prog 72 := ⟨_, Try.func72, by decide, rfl⟩
theorem C_command_EncodeState_1_link {x0 x1 : Value} {w : World} {R : Value → World → Prop} (h : C_command_EncodeState_1 x0 x1 w R) : CallF Try.prog 72 #[x0, x1] w R :=
  callF_vFun (L := [0, 1, 2]) (args := [x0, x1]) C_command_EncodeState_1_ent Try.func72 rfl (Eq.mp (show (C_command_EncodeState_1 x0 x1 w R) = vFun Try.prog Try.f72 [0, 1, 2] [x0, x1] w R by kernel_rfl) h)

/-- furlong/furlongref10.count: function 73 -/
def C_furlongref10_count (x0 : Value) (w : World) (R : Value → World → Prop) : Prop :=
  ConvI .u64 x0 fun t4_1 =>
  CallF Try.prog 38 #[t4_1] w fun t5_2 w_3 =>
  R t5_2 w_3
theorem C_furlongref10_count_ent : Ent Try.prog 73 := ⟨_, Try.func73, by decide, rfl⟩
theorem C_furlongref10_count_link {x0 : Value} {w : World} {R : Value → World → Prop} (h : C_furlongref10_count x0 w R) : CallF Try.prog 73 #[x0] w R :=
  callF_vFun (L := [0, 2]) (args := [x0]) C_furlongref10_count_ent Try.func73 rfl (Eq.mp (show (C_furlongref10_count x0 w R) = vFun Try.prog Try.f73 [0, 2] [x0] w R by kernel_rfl) h)

/-- furlong/strip.LayInt: function 74 -/
def C_strip_LayInt (x0 : Value) (x1 : Value) (w : World) (R : Value → World → Prop) : Prop :=
  Bin Try.prog (At w) .lss 2 false true x1 (.int .i64 0) fun t6_1 =>
  If t6_1 (
   Un Try.prog (At w) .xor x1 fun t9_2 =>
   ConvI .u64 t9_2 fun t10_3 =>
   Bin Try.prog (At w) .mul 75 true false (.int .u64 2) t10_3 fun t11_4 =>
   Bin Try.prog (At w) .add 75 false true t11_4 (.int .u64 1) fun t12_5 =>
   CallF Try.prog 75 #[x0, t12_5] w fun t13_6 w_7 =>
   R t13_6 w_7) (
   ConvI .u64 x1 fun t16_8 =>
   Bin Try.prog (At w) .mul 75 true false (.int .u64 2) t16_8 fun t17_9 =>
   CallF Try.prog 75 #[x0, t17_9] w fun t18_10 w_11 =>
   R t18_10 w_11)
theorem C_strip_LayInt_ent : Ent Try.prog 74 := ⟨_, Try.func74, by decide, rfl⟩
theorem C_strip_LayInt_link {x0 x1 : Value} {w : World} {R : Value → World → Prop} (h : C_strip_LayInt x0 x1 w R) : CallF Try.prog 74 #[x0, x1] w R :=
  callF_vFun (L := [0, 1, 4, 6]) (args := [x0, x1]) C_strip_LayInt_ent Try.func74 rfl (Eq.mp (show (C_strip_LayInt x0 x1 w R) = vFun Try.prog Try.f74 [0, 1, 4, 6] [x0, x1] w R by kernel_rfl) h)

/-- furlong/strip.Lay: function 75 -/
def C_strip_Lay (x0 : Value) (x1 : Value) (w : World) (R : Value → World → Prop) : Prop :=
  Len x0 fun t9_1 =>
  Bin Try.prog (At w) .add 3 false true t9_1 (.int .i64 9) fun t10_2 =>
  Do Try.prog (Instr.makeSlice 37 (.int .i64 0) t10_2) w fun t11_3 w_4 =>
  Do Try.prog (Builtin.append_ #[37, 37] 37 #[t11_3, x0]) w_4 fun t13_5 w_6 =>
  CallF Try.prog 97 #[x1] w_6 fun t15_7 w_8 =>
  Bin Try.prog (At w_8) .sub 3 false true t15_7 (.int .i64 1) fun t16_9 =>
  Bin Try.prog (At w_8) .eql 3 false true t16_9 (.int .i64 0) fun t18_10 =>
  If t18_10 (
   ConvI .u8 x1 fun t21_11 =>
   Do Try.prog (Instr.buildSlice 37 1 #[(0, t21_11)]) w_8 fun t22_12 w_13 =>
   Do Try.prog (Builtin.append_ #[37, 37] 37 #[t13_5, t22_12]) w_13 fun t23_14 w_15 =>
   R t23_14 w_15) (
   Bin Try.prog (At w_8) .add 3 true false (.int .i64 192) t16_9 fun t26_16 =>
   Bin Try.prog (At w_8) .sub 3 false true t26_16 (.int .i64 1) fun t27_17 =>
   ConvI .u8 t27_17 fun t28_18 =>
   Do Try.prog (Instr.buildSlice 37 1 #[(0, t28_18)]) w_8 fun t29_19 w_20 =>
   Do Try.prog (Builtin.append_ #[37, 37] 37 #[t13_5, t29_19]) w_20 fun t30_21 w_22 =>
   CallF Try.prog 98 #[t16_9] w_22 fun t33_23 w_24 =>
   Bin Try.prog (At w_24) .sub 75 false false x1 t33_23 fun t34_25 =>
   ∃ (I_26 : Nat → Value → Value → World → Prop) (m_27 : Nat), I_26 m_27 t30_21 (.int .i64 0) w_24 ∧
   ∀ m_28, ∀ l_5_29, ∀ t36_30, ∀ w_31, I_26 m_28 l_5_29 t36_30 w_31 →
    Bin Try.prog (At w_31) .lss 3 false false t36_30 t16_9 fun t37_32 =>
    If t37_32 (
     Bin Try.prog (At w_31) .sub 3 false true t16_9 (.int .i64 1) fun t42_33 =>
     Bin Try.prog (At w_31) .sub 3 false false t42_33 t36_30 fun t44_34 =>
     Bin Try.prog (At w_31) .mul 3 true false (.int .i64 8) t44_34 fun t45_35 =>
     Bin Try.prog (At w_31) .shr 75 false false t34_25 t45_35 fun t46_36 =>
     ConvI .u8 t46_36 fun t47_37 =>
     Do Try.prog (Instr.buildSlice 37 1 #[(0, t47_37)]) w_31 fun t48_38 w_39 =>
     Do Try.prog (Builtin.append_ #[37, 37] 37 #[l_5_29, t48_38]) w_39 fun t49_40 w_41 =>
     Bin Try.prog (At w_41) .add 3 false true t36_30 (.int .i64 1) fun t50_42 =>
     ∃ m_43, m_43 < m_28 ∧
     I_26 m_43 t49_40 t50_42 w_41) (
     R l_5_29 w_31))
theorem C_strip_Lay_ent : Ent Try.prog 75 := ⟨_, Try.func75, by decide, rfl⟩
theorem C_strip_Lay_link {x0 x1 : Value} {w : World} {R : Value → World → Prop} (h : C_strip_Lay x0 x1 w R) : CallF Try.prog 75 #[x0, x1] w R :=
  callF_vFun (L := [0, 1, 4, 5, 6, 7, 18, 35, 36, 37]) (args := [x0, x1]) C_strip_Lay_ent Try.func75 rfl (Eq.mp (show (C_strip_Lay x0 x1 w R) = vFun Try.prog Try.f75 [0, 1, 4, 5, 6, 7, 18, 35, 36, 37] [x0, x1] w R by kernel_rfl) h)

/-- furlong/furlongref03.Whole: function 76 -/
def C_furlongref03_Whole (x0 : Value) (w : World) (R : Value → World → Prop) : Prop :=
  Bin Try.prog (At w) .lss 2 false true x0 (.int .i64 0) fun t4_1 =>
  If t4_1 (
   Bin Try.prog (At w) .add 2 false true x0 (.int .i64 1) fun t6_2 =>
   Un Try.prog (At w) .neg t6_2 fun t7_3 =>
   ConvI .u64 t7_3 fun t8_4 =>
   Bin Try.prog (At w) .mul 75 false true t8_4 (.int .u64 2) fun t9_5 =>
   Bin Try.prog (At w) .add 75 false true t9_5 (.int .u64 1) fun t10_6 =>
   CallF Try.prog 38 #[t10_6] w fun t11_7 w_8 =>
   R t11_7 w_8) (
   ConvI .u64 x0 fun t13_9 =>
   Bin Try.prog (At w) .mul 75 false true t13_9 (.int .u64 2) fun t14_10 =>
   CallF Try.prog 38 #[t14_10] w fun t15_11 w_12 =>
   R t15_11 w_12)
theorem C_furlongref03_Whole_ent : Ent Try.prog 76 := ⟨_, Try.func76, by decide, rfl⟩
theorem C_furlongref03_Whole_link {x0 : Value} {w : World} {R : Value → World → Prop} (h : C_furlongref03_Whole x0 w R) : CallF Try.prog 76 #[x0] w R :=
  callF_vFun (L := [0, 2, 4]) (args := [x0]) C_furlongref03_Whole_ent Try.func76 rfl (Eq.mp (show (C_furlongref03_Whole x0 w R) = vFun Try.prog Try.f76 [0, 2, 4] [x0] w R by kernel_rfl) h)

/-- (*furlong/command.reader).int64: function 77 -/
def C_command_reader_int64 (x0 : Value) (w : World) (R : Value → World → Prop) : Prop :=
  NilC x0 fun t7_1 =>
  FAd 2 t7_1 fun t8_2 =>
  LdC (At w) t8_2 fun t9_3 =>
  Bin Try.prog (At w) .neq 38 false true t9_3 (.int .i64 0) fun t10_4 =>
  If t10_4 (
   R (.int .i64 0) w) (
   ∃ S_5 : World → Prop, S_5 (World.drew w) ∧
   NilC x0 fun t13_6 =>
   FAd 0 t13_6 fun t14_7 =>
   LdC S_5 t14_7 fun t15_8 =>
   NilC x0 fun t17_9 =>
   FAd 1 t17_9 fun t18_10 =>
   LdC S_5 t18_10 fun t19_11 =>
   CallF Try.prog 99 #[t15_8, t19_11] (World.drew w) fun t20_12 w_13 =>
   Ext t20_12 0 fun t21_14 =>
   Ext t20_12 1 fun t22_15 =>
   Ext t20_12 2 fun t23_16 =>
   NilC x0 fun t28_17 =>
   FAd 1 t28_17 fun t29_18 =>
   DoU Try.prog (Instr.storeAt 3 t29_18 t22_15) w_13 fun u_19 w_20 =>
   NilC x0 fun t30_21 =>
   FAd 2 t30_21 fun t31_22 =>
   DoU Try.prog (Instr.storeAt 38 t31_22 t23_16) w_20 fun u_23 w_24 =>
   R t21_14 w_24)
theorem C_command_reader_int64_ent : Ent Try.prog 77 := ⟨_, Try.func77, by decide, rfl⟩
theorem C_command_reader_int64_link {x0 : Value} {w : World} {R : Value → World → Prop} (h : C_command_reader_int64 x0 w R) : CallF Try.prog 77 #[x0] w R :=
  callF_vFun (L := [0, 2, 3, 4, 5, 10]) (args := [x0]) C_command_reader_int64_ent Try.func77 rfl (Eq.mp (show (C_command_reader_int64 x0 w R) = vFun Try.prog Try.f77 [0, 2, 3, 4, 5, 10] [x0] w R by kernel_rfl) h)

/-- (*furlong/command.reader).int: function 78 -/
def C_command_reader_int (x0 : Value) (w : World) (R : Value → World → Prop) : Prop :=
  CallF Try.prog 77 #[x0] w fun t4_1 w_2 =>
  R t4_1 w_2
theorem C_command_reader_int_ent : Ent Try.prog 78 := ⟨_, Try.func78, by decide, rfl⟩
theorem C_command_reader_int_link {x0 : Value} {w : World} {R : Value → World → Prop} (h : C_command_reader_int x0 w R) : CallF Try.prog 78 #[x0] w R :=
  callF_vFun (L := [0, 2]) (args := [x0]) C_command_reader_int_ent Try.func78 rfl (Eq.mp (show (C_command_reader_int x0 w R) = vFun Try.prog Try.f78 [0, 2] [x0] w R by kernel_rfl) h)

/-- (*furlong/command.reader).command: function 79 -/
def C_command_reader_command (x0 : Value) (w : World) (R : Value → World → Prop) : Prop :=
  Do Try.prog (Instr.alloc 32 true (.tuple #[])) w fun t2_1 w_2 =>
  CallF Try.prog 100 #[x0, (.int .u64 9223372036854775807), (.int .i64 4)] w_2 fun t4_3 w_4 =>
  ConvI .i64 t4_3 fun t5_5 =>
  CallF Try.prog 78 #[x0] w_4 fun t7_6 w_7 =>
  CallF Try.prog 78 #[x0] w_7 fun t9_8 w_9 =>
  CallF Try.prog 78 #[x0] w_9 fun t11_10 w_11 =>
  CallF Try.prog 77 #[x0] w_11 fun t13_12 w_13 =>
  CallF Try.prog 88 #[x0] w_13 fun t15_14 w_15 =>
  CallF Try.prog 90 #[x0] w_15 fun t17_16 w_17 =>
  CallF Try.prog 92 #[x0] w_17 fun t19_18 w_19 =>
  Bld Try.prog 32 [(0, t5_5), (1, t7_6), (2, t9_8), (3, t11_10), (4, t13_12), (5, t15_14), (6, t17_16), (7, t19_18)] fun t20_20 =>
  DoU Try.prog (Instr.storeAt 32 t2_1 t20_20) w_19 fun u_21 w_22 =>
  LdA (At w_22) 24 t2_1 fun r_23 =>
  R r_23 w_22
theorem C_command_reader_command_ent : Ent Try.prog 79 := ⟨_, Try.func79, by decide, rfl⟩
theorem C_command_reader_command_link {x0 : Value} {w : World} {R : Value → World → Prop} (h : C_command_reader_command x0 w R) : CallF Try.prog 79 #[x0] w R :=
  callF_vFun (L := [0, 2]) (args := [x0]) C_command_reader_command_ent Try.func79 rfl (Eq.mp (show (C_command_reader_command x0 w R) = vFun Try.prog Try.f79 [0, 2] [x0] w R by kernel_rfl) h)

/-- furlong/furlongref10.num: function 80 -/
def C_furlongref10_num (x0 : Value) (w : World) (R : Value → World → Prop) : Prop :=
  Do Try.prog (Instr.box 92 x0) w fun r_1_1 w_2 =>
  Do Try.prog (Instr.alloc 92 true (.tuple #[])) w_2 fun t2_3 w_4 =>
  FAd 2 r_1_1 fun t7_5 =>
  LdC (At w_4) t7_5 fun t8_6 =>
  Bin Try.prog (At w_4) .neq 38 false true t8_6 (.int .i64 0) fun t9_7 =>
  If t9_7 (
   LdA (At w_4) 3 r_1_1 fun t10_8 =>
   DoU Try.prog (Instr.storeAt 92 t2_3 t10_8) w_4 fun u_9 w_10 =>
   LdA (At w_10) 3 t2_3 fun r_11 =>
   R (.tuple #[r_11, (.int .i64 0)]) w_10) (
   FAd 0 r_1_1 fun t12_12 =>
   LdC (At w_4) t12_12 fun t13_13 =>
   FAd 1 r_1_1 fun t14_14 =>
   LdC (At w_4) t14_14 fun t15_15 =>
   CallF Try.prog 101 #[t13_13, t15_15] w_4 fun t16_16 w_17 =>
   Ext t16_16 0 fun t17_18 =>
   Ext t16_16 1 fun t18_19 =>
   Ext t16_16 2 fun t19_20 =>
   FAd 1 r_1_1 fun t21_21 =>
   DoU Try.prog (Instr.storeAt 3 t21_21 t18_19) w_17 fun u_22 w_23 =>
   FAd 2 r_1_1 fun t23_24 =>
   DoU Try.prog (Instr.storeAt 38 t23_24 t19_20) w_23 fun u_25 w_26 =>
   LdA (At w_26) 3 r_1_1 fun t24_27 =>
   DoU Try.prog (Instr.storeAt 92 t2_3 t24_27) w_26 fun u_28 w_29 =>
   LdA (At w_29) 3 t2_3 fun r_30 =>
   R (.tuple #[r_30, t17_18]) w_29)
theorem C_furlongref10_num_ent : Ent Try.prog 80 := ⟨_, Try.func80, by decide, rfl⟩
theorem C_furlongref10_num_link {x0 : Value} {w : World} {R : Value → World → Prop} (h : C_furlongref10_num x0 w R) : CallF Try.prog 80 #[x0] w R :=
  callF_vFun (L := [0, 1, 2, 3, 4, 5, 6, 9]) (args := [x0]) C_furlongref10_num_ent Try.func80 rfl (Eq.mp (show (C_furlongref10_num x0 w R) = vFun Try.prog Try.f80 [0, 1, 2, 3, 4, 5, 6, 9] [x0] w R by kernel_rfl) h)

/-- furlong/furlongref03.GetNum: function 81 -/
def C_furlongref03_GetNum (x0 : Value) (x1 : Value) (w : World) (R : Value → World → Prop) : Prop :=
  Bin Try.prog (At w) .lss 3 false true x1 (.int .i64 0) fun t12_1 =>
  GdP (isB t12_1 false) (fun R => R x1) fun t14_2 =>
  GdP (isB t12_1 false) (fun R => R x0) fun t15_3 =>
  GdP (isB t12_1 false) (fun R => Len t15_3 R) fun t16_4 =>
  GdP (isB t12_1 false) (fun R => Bin Try.prog (At w) .gtr 3 false false t14_2 t16_4 R) fun t17_5 =>
  Pick t12_1 (.bool true) t17_5 fun t18_6 =>
  If t18_6 (
   R (.tuple #[(.int .u64 0), (.int .i64 0), (.int .i64 1)]) w) (
   Len x0 fun t22_7 =>
   Bin Try.prog (At w) .eql 3 false false x1 t22_7 fun t23_8 =>
   If t23_8 (
    Len x0 fun t25_9 =>
    R (.tuple #[(.int .u64 0), t25_9, (.int .i64 5)]) w) (
    IAdS 1 x0 x1 fun t29_10 =>
    LdC (At w) t29_10 fun t30_11 =>
    Bin Try.prog (At w) .lss 5 false true t30_11 (.int .u8 192) fun t31_12 =>
    If t31_12 (
     IAdS 1 x0 x1 fun t34_13 =>
     LdC (At w) t34_13 fun t35_14 =>
     ConvI .u64 t35_14 fun t36_15 =>
     Bin Try.prog (At w) .add 3 false true x1 (.int .i64 1) fun t38_16 =>
     R (.tuple #[t36_15, t38_16, (.int .i64 0)]) w) (
     IAdS 1 x0 x1 fun t42_17 =>
     LdC (At w) t42_17 fun t43_18 =>
     Bin Try.prog (At w) .geq 5 false true t43_18 (.int .u8 200) fun t44_19 =>
     If t44_19 (
      R (.tuple #[(.int .u64 0), x1, (.int .i64 4)]) w) (
      IAdS 1 x0 x1 fun t48_20 =>
      LdC (At w) t48_20 fun t49_21 =>
      ConvI .i64 t49_21 fun t50_22 =>
      Bin Try.prog (At w) .sub 3 false true t50_22 (.int .i64 191) fun t51_23 =>
      Len x0 fun t53_24 =>
      Bin Try.prog (At w) .sub 3 false false t53_24 x1 fun t55_25 =>
      Bin Try.prog (At w) .sub 3 false true t55_25 (.int .i64 1) fun t56_26 =>
      Bin Try.prog (At w) .lss 3 false false t56_26 t51_23 fun t58_27 =>
      If t58_27 (
       Len x0 fun t60_28 =>
       R (.tuple #[(.int .u64 0), t60_28, (.int .i64 5)]) w) (
       ∃ (I_29 : Nat → Value → Value → World → Prop) (m_30 : Nat), I_29 m_30 (.int .u64 0) (.int .i64 0) w ∧
       ∀ m_31, ∀ far_8_32, ∀ i_9_33, ∀ w_34, I_29 m_31 far_8_32 i_9_33 w_34 →
        Bin Try.prog (At w_34) .lss 3 false false i_9_33 t51_23 fun t63_35 =>
        If t63_35 (
         Bin Try.prog (At w_34) .mul 75 false true far_8_32 (.int .u64 256) fun t67_36 =>
         Bin Try.prog (At w_34) .add 3 false true x1 (.int .i64 1) fun t70_37 =>
         Bin Try.prog (At w_34) .add 3 false false t70_37 i_9_33 fun t72_38 =>
         IAdS 1 x0 t72_38 fun t73_39 =>
         LdC (At w_34) t73_39 fun t74_40 =>
         ConvI .u64 t74_40 fun t75_41 =>
         Bin Try.prog (At w_34) .add 75 false false t67_36 t75_41 fun t76_42 =>
         Bin Try.prog (At w_34) .add 3 false true i_9_33 (.int .i64 1) fun t65_43 =>
         ∃ m_44, m_44 < m_31 ∧
         I_29 m_44 t76_42 t65_43 w_34) (
         CallF Try.prog 102 #[t51_23] w_34 fun t79_45 w_46 =>
         Bin Try.prog (At w_46) .sub 75 true false (.int .u64 18446744073709551615) t79_45 fun t80_47 =>
         Bin Try.prog (At w_46) .gtr 75 false false far_8_32 t80_47 fun t81_48 =>
         If t81_48 (
          R (.tuple #[(.int .u64 0), x1, (.int .i64 4)]) w_46) (
          CallF Try.prog 102 #[t51_23] w_46 fun t84_49 w_50 =>
          Bin Try.prog (At w_50) .add 75 false false t84_49 far_8_32 fun t86_51 =>
          Bin Try.prog (At w_50) .add 3 false true x1 (.int .i64 1) fun t88_52 =>
          Bin Try.prog (At w_50) .add 3 false false t88_52 t51_23 fun t90_53 =>
          R (.tuple #[t86_51, t90_53, (.int .i64 0)]) w_50)))))))
theorem C_furlongref03_GetNum_ent : Ent Try.prog 81 := ⟨_, Try.func81, by decide, rfl⟩
theorem C_furlongref03_GetNum_link {x0 x1 : Value} {w : World} {R : Value → World → Prop} (h : C_furlongref03_GetNum x0 x1 w R) : CallF Try.prog 81 #[x0, x1] w R :=
  callF_vFun (L := [0, 1, 4, 5, 6, 7, 8, 9, 10, 19, 26, 39, 58, 63, 81]) (args := [x0, x1]) C_furlongref03_GetNum_ent Try.func81 rfl (Eq.mp (show (C_furlongref03_GetNum x0 x1 w R) = vFun Try.prog Try.f81 [0, 1, 4, 5, 6, 7, 8, 9, 10, 19, 26, 39, 58, 63, 81] [x0, x1] w R by kernel_rfl) h)

/-- furlong/command.all[int]: function 82 -/
def C_command_all_int (x0 : Value) (x1 : Value) (w : World) (R : Value → World → Prop) : Prop :=
  Do Try.prog (Instr.alloc 28 true (.tuple #[])) w fun l_5_1 w_2 =>
  CallF Try.prog 103 #[x0, x1] w_2 fun t9_3 w_4 =>
  ∀ r_5 : Go.Loop, (∀ a_6, ∀ (w_7 : World) (k_8 : Value → World → Prop), w_7.heap[w_4.heap.size + 1]? = some (LO r_5 .ready none) → (
   w_7.heap[w_4.heap.size + 1]? = some (LO r_5 .ready none) ∧
   LdC (At (setO w_7 (w_4.heap.size + 1) (LO r_5 .busy none))) l_5_1 fun t11_9 =>
   Do Try.prog (Instr.buildSlice 28 1 #[(0, a_6)]) (setO w_7 (w_4.heap.size + 1) (LO r_5 .busy none)) fun t13_10 w_11 =>
   Do Try.prog (Builtin.append_ #[28, 28] 28 #[t11_9, t13_10]) w_11 fun t14_12 w_13 =>
   DoU Try.prog (Instr.storeAt 28 l_5_1 t14_12) w_13 fun u_14 w_15 =>
   w_15.heap[w_4.heap.size + 1]? = some (LO r_5 .busy none) ∧
   k_8 (.bool true) (setO w_15 (w_4.heap.size + 1) (LO r_5 .ready none))) → CallV Try.prog (yv (w_4.heap.size + 1)) #[a_6] w_7 k_8) →
  CallE Try.prog t9_3 #[yv (w_4.heap.size + 1)] (loopW w_4 r_5) fun _ w_16 =>
   (∃ st_17, w_16.heap[w_4.heap.size + 1]? = some (LO r_5 st_17 none) ∧ st_17 ≠ .busy ∧
    LdC (At (setO w_16 (w_4.heap.size + 1) (LO r_5 .exhausted none))) l_5_1 fun t15_18 =>
    (setO w_16 (w_4.heap.size + 1) (LO r_5 .exhausted none)).heap[w_4.heap.size]? = some (.deferred (some [])) ∧
    R t15_18 (setO (setO w_16 (w_4.heap.size + 1) (LO r_5 .exhausted none)) w_4.heap.size (.deferred none)))
theorem C_command_all_int_ent : Ent Try.prog 82 := ⟨_, Try.func82, by decide, rfl⟩
theorem C_command_all_int_link {x0 x1 : Value} {w : World} {R : Value → World → Prop} (h : C_command_all_int x0 x1 w R) : CallF Try.prog 82 #[x0, x1] w R :=
  callF_vFun (L := [0, 1, 4, 5, 6, 9, 10]) (args := [x0, x1]) C_command_all_int_ent Try.func82 rfl (Eq.mp (show (C_command_all_int x0 x1 w R) = vFun Try.prog Try.f82 [0, 1, 4, 5, 6, 9, 10] [x0, x1] w R by kernel_rfl) h)

/-- furlong/command.all[furlong/api.Lease]: function 83 -/
def C_command_all_api_Lease (x0 : Value) (x1 : Value) (w : World) (R : Value → World → Prop) : Prop :=
  Do Try.prog (Instr.alloc 47 true (.tuple #[])) w fun l_5_1 w_2 =>
  CallF Try.prog 104 #[x0, x1] w_2 fun t9_3 w_4 =>
  ∀ r_5 : Go.Loop, (∀ a_6, ∀ (w_7 : World) (k_8 : Value → World → Prop), w_7.heap[w_4.heap.size + 1]? = some (LO r_5 .ready none) → (
   Do Try.prog (Instr.alloc 124 true (.tuple #[])) w_7 fun x_6_9 w_10 =>
   DoU Try.prog (Instr.storeAt 124 x_6_9 a_6) w_10 fun u_11 w_12 =>
   w_12.heap[w_4.heap.size + 1]? = some (LO r_5 .ready none) ∧
   LdC (At (setO w_12 (w_4.heap.size + 1) (LO r_5 .busy none))) l_5_1 fun t11_13 =>
   LdA (At (setO w_12 (w_4.heap.size + 1) (LO r_5 .busy none))) 8 x_6_9 fun t12_14 =>
   Do Try.prog (Instr.buildSlice 47 1 #[(0, t12_14)]) (setO w_12 (w_4.heap.size + 1) (LO r_5 .busy none)) fun t13_15 w_16 =>
   Do Try.prog (Builtin.append_ #[47, 47] 47 #[t11_13, t13_15]) w_16 fun t14_17 w_18 =>
   DoU Try.prog (Instr.storeAt 47 l_5_1 t14_17) w_18 fun u_19 w_20 =>
   w_20.heap[w_4.heap.size + 1]? = some (LO r_5 .busy none) ∧
   k_8 (.bool true) (setO w_20 (w_4.heap.size + 1) (LO r_5 .ready none))) → CallV Try.prog (yv (w_4.heap.size + 1)) #[a_6] w_7 k_8) →
  CallE Try.prog t9_3 #[yv (w_4.heap.size + 1)] (loopW w_4 r_5) fun _ w_21 =>
   (∃ st_22, w_21.heap[w_4.heap.size + 1]? = some (LO r_5 st_22 none) ∧ st_22 ≠ .busy ∧
    LdC (At (setO w_21 (w_4.heap.size + 1) (LO r_5 .exhausted none))) l_5_1 fun t15_23 =>
    (setO w_21 (w_4.heap.size + 1) (LO r_5 .exhausted none)).heap[w_4.heap.size]? = some (.deferred (some [])) ∧
    R t15_23 (setO (setO w_21 (w_4.heap.size + 1) (LO r_5 .exhausted none)) w_4.heap.size (.deferred none)))
theorem C_command_all_api_Lease_ent : Ent Try.prog 83 := ⟨_, Try.func83, by decide, rfl⟩
theorem C_command_all_api_Lease_link {x0 x1 : Value} {w : World} {R : Value → World → Prop} (h : C_command_all_api_Lease x0 x1 w R) : CallF Try.prog 83 #[x0, x1] w R :=
  callF_vFun (L := [0, 1, 4, 5, 6, 9, 10]) (args := [x0, x1]) C_command_all_api_Lease_ent Try.func83 rfl (Eq.mp (show (C_command_all_api_Lease x0 x1 w R) = vFun Try.prog Try.f83 [0, 1, 4, 5, 6, 9, 10] [x0, x1] w R by kernel_rfl) h)

/-- (*furlong/command.reader).lease: function 84 -/
def C_command_reader_lease (x0 : Value) (w : World) (R : Value → World → Prop) : Prop :=
  Do Try.prog (Instr.alloc 124 true (.tuple #[])) w fun t2_1 w_2 =>
  CallF Try.prog 78 #[x0] w_2 fun t4_3 w_4 =>
  CallF Try.prog 78 #[x0] w_4 fun t6_5 w_6 =>
  CallF Try.prog 78 #[x0] w_6 fun t8_7 w_8 =>
  CallF Try.prog 82 #[x0, (.func (.func 78) #[x0] #[])] w_8 fun t12_9 w_10 =>
  CallF Try.prog 77 #[x0] w_10 fun t14_11 w_12 =>
  CallF Try.prog 77 #[x0] w_12 fun t16_13 w_14 =>
  CallF Try.prog 77 #[x0] w_14 fun t18_15 w_16 =>
  CallF Try.prog 100 #[x0, (.int .u64 1), (.int .i64 4)] w_16 fun t20_17 w_18 =>
  Bin Try.prog (At w_18) .eql 75 false true t20_17 (.int .u64 1) fun t21_19 =>
  Bld Try.prog 124 [(0, t4_3), (1, t6_5), (2, t8_7), (3, t12_9), (4, t14_11), (5, t16_13), (6, t18_15), (7, t21_19)] fun t22_20 =>
  DoU Try.prog (Instr.storeAt 124 t2_1 t22_20) w_18 fun u_21 w_22 =>
  LdA (At w_22) 8 t2_1 fun r_23 =>
  R r_23 w_22
theorem C_command_reader_lease_ent : Ent Try.prog 84 := ⟨_, Try.func84, by decide, rfl⟩
theorem C_command_reader_lease_link {x0 : Value} {w : World} {R : Value → World → Prop} (h : C_command_reader_lease x0 w R) : CallF Try.prog 84 #[x0] w R :=
  callF_vFun (L := [0, 2]) (args := [x0]) C_command_reader_lease_ent Try.func84 rfl (Eq.mp (show (C_command_reader_lease x0 w R) = vFun Try.prog Try.f84 [0, 2] [x0] w R by kernel_rfl) h)

/-- furlong/furlongref10.aLease: function 85 -/
def C_furlongref10_aLease (x0 : Value) (w : World) (R : Value → World → Prop) : Prop :=
  Do Try.prog (Instr.box 92 x0) w fun r_1_1 w_2 =>
  Do Try.prog (Instr.alloc 92 true (.tuple #[])) w_2 fun t2_3 w_4 =>
  Do Try.prog (Instr.alloc 124 true (.tuple #[])) w_4 fun t3_5 w_6 =>
  LdA (At w_6) 3 r_1_1 fun t9_7 =>
  CallF Try.prog 45 #[t9_7, (.int .i64 3)] w_6 fun t10_8 w_9 =>
  Ext t10_8 0 fun t11_10 =>
  Ext t10_8 1 fun t12_11 =>
  DoU Try.prog (Instr.storeAt 92 r_1_1 t11_10) w_9 fun u_12 w_13 =>
  LdA (At w_13) 3 r_1_1 fun t14_14 =>
  CallF Try.prog 53 #[t14_14] w_13 fun t15_15 w_16 =>
  Ext t15_15 0 fun t16_17 =>
  Ext t15_15 1 fun t17_18 =>
  DoU Try.prog (Instr.storeAt 92 r_1_1 t16_17) w_16 fun u_19 w_20 =>
  LdA (At w_20) 3 r_1_1 fun t19_21 =>
  CallF Try.prog 45 #[t19_21, (.int .i64 3)] w_20 fun t20_22 w_23 =>
  Ext t20_22 0 fun t21_24 =>
  Ext t20_22 1 fun t22_25 =>
  DoU Try.prog (Instr.storeAt 92 r_1_1 t21_24) w_23 fun u_26 w_27 =>
  LdA (At w_27) 3 r_1_1 fun t24_28 =>
  CallF Try.prog 46 #[t24_28, (.int .u64 1)] w_27 fun t25_29 w_30 =>
  Ext t25_29 0 fun t26_31 =>
  Ext t25_29 1 fun t27_32 =>
  DoU Try.prog (Instr.storeAt 92 r_1_1 t26_31) w_30 fun u_33 w_34 =>
  ∃ S_35 : World → Prop, S_35 (World.drew w_34) ∧
  LdA S_35 3 r_1_1 fun t28_36 =>
  IAdS 1 t12_11 (.int .i64 0) fun t30_37 =>
  LdC S_35 t30_37 fun t31_38 =>
  IAdS 1 t12_11 (.int .i64 1) fun t33_39 =>
  LdC S_35 t33_39 fun t34_40 =>
  IAdS 1 t12_11 (.int .i64 2) fun t36_41 =>
  LdC S_35 t36_41 fun t37_42 =>
  IAdS 1 t22_25 (.int .i64 0) fun t40_43 =>
  LdC S_35 t40_43 fun t41_44 =>
  IAdS 1 t22_25 (.int .i64 1) fun t43_45 =>
  LdC S_35 t43_45 fun t44_46 =>
  IAdS 1 t22_25 (.int .i64 2) fun t46_47 =>
  LdC S_35 t46_47 fun t47_48 =>
  Bin Try.prog S_35 .eql 3 false true t27_32 (.int .i64 1) fun t49_49 =>
  Bld Try.prog 124 [(0, t31_38), (1, t34_40), (2, t37_42), (3, t17_18), (4, t41_44), (5, t44_46), (6, t47_48), (7, t49_49)] fun t50_50 =>
  DoU Try.prog (Instr.storeAt 92 t2_3 t28_36) (World.drew w_34) fun u_51 w_52 =>
  S_35 w_52 ∧
  DoU Try.prog (Instr.storeAt 124 t3_5 t50_50) w_52 fun u_53 w_54 =>
  LdA (At w_54) 3 t2_3 fun r_55 =>
  LdA (At w_54) 8 t3_5 fun r_56 =>
  R (.tuple #[r_55, r_56]) w_54
theorem C_furlongref10_aLease_ent : Ent Try.prog 85 := ⟨_, Try.func85, by decide, rfl⟩
theorem C_furlongref10_aLease_link {x0 : Value} {w : World} {R : Value → World → Prop} (h : C_furlongref10_aLease x0 w R) : CallF Try.prog 85 #[x0] w R :=
  callF_vFun (L := [0, 1, 2, 3, 4, 5, 6, 7]) (args := [x0]) C_furlongref10_aLease_ent Try.func85 rfl (Eq.mp (show (C_furlongref10_aLease x0 w R) = vFun Try.prog Try.f85 [0, 1, 2, 3, 4, 5, 6, 7] [x0] w R by kernel_rfl) h)

/-- furlong/furlongref10.SameLease: function 86 -/
def C_furlongref10_SameLease (x0 : Value) (x1 : Value) (w : World) (R : Value → World → Prop) : Prop :=
  Do Try.prog (Instr.box 124 x0) w fun a_2_1 w_2 =>
  Do Try.prog (Instr.box 124 x1) w_2 fun b_3_3 w_4 =>
  FAd 0 a_2_1 fun t5_5 =>
  LdC (At w_4) t5_5 fun t6_6 =>
  FAd 0 b_3_3 fun t7_7 =>
  LdC (At w_4) t7_7 fun t8_8 =>
  Bin Try.prog (At w_4) .eql 3 false false t6_6 t8_8 fun t9_9 =>
  GdP (isB t9_9 true) (fun R => FAd 1 a_2_1 R) fun t11_10 =>
  GdP (isB t9_9 true) (fun R => LdC (At w_4) t11_10 R) fun t12_11 =>
  GdP (isB t9_9 true) (fun R => FAd 1 b_3_3 R) fun t13_12 =>
  GdP (isB t9_9 true) (fun R => LdC (At w_4) t13_12 R) fun t14_13 =>
  GdP (isB t9_9 true) (fun R => Bin Try.prog (At w_4) .eql 3 false false t12_11 t14_13 R) fun t15_14 =>
  Pick t9_9 t15_14 (.bool false) fun t16_15 =>
  GdP (isB t16_15 true) (fun R => FAd 2 a_2_1 R) fun t18_16 =>
  GdP (isB t16_15 true) (fun R => LdC (At w_4) t18_16 R) fun t19_17 =>
  GdP (isB t16_15 true) (fun R => FAd 2 b_3_3 R) fun t20_18 =>
  GdP (isB t16_15 true) (fun R => LdC (At w_4) t20_18 R) fun t21_19 =>
  GdP (isB t16_15 true) (fun R => Bin Try.prog (At w_4) .eql 3 false false t19_17 t21_19 R) fun t22_20 =>
  Pick t16_15 t22_20 (.bool false) fun t23_21 =>
  GdP (isB t23_21 true) (fun R => FAd 4 a_2_1 R) fun t25_22 =>
  GdP (isB t23_21 true) (fun R => LdC (At w_4) t25_22 R) fun t26_23 =>
  GdP (isB t23_21 true) (fun R => FAd 4 b_3_3 R) fun t27_24 =>
  GdP (isB t23_21 true) (fun R => LdC (At w_4) t27_24 R) fun t28_25 =>
  GdP (isB t23_21 true) (fun R => Bin Try.prog (At w_4) .eql 2 false false t26_23 t28_25 R) fun t29_26 =>
  Pick t23_21 t29_26 (.bool false) fun t30_27 =>
  GdP (isB t30_27 true) (fun R => FAd 5 a_2_1 R) fun t32_28 =>
  GdP (isB t30_27 true) (fun R => LdC (At w_4) t32_28 R) fun t33_29 =>
  GdP (isB t30_27 true) (fun R => FAd 5 b_3_3 R) fun t34_30 =>
  GdP (isB t30_27 true) (fun R => LdC (At w_4) t34_30 R) fun t35_31 =>
  GdP (isB t30_27 true) (fun R => Bin Try.prog (At w_4) .eql 2 false false t33_29 t35_31 R) fun t36_32 =>
  Pick t30_27 t36_32 (.bool false) fun t37_33 =>
  GdP (isB t37_33 true) (fun R => FAd 6 a_2_1 R) fun t39_34 =>
  GdP (isB t37_33 true) (fun R => LdC (At w_4) t39_34 R) fun t40_35 =>
  GdP (isB t37_33 true) (fun R => FAd 6 b_3_3 R) fun t41_36 =>
  GdP (isB t37_33 true) (fun R => LdC (At w_4) t41_36 R) fun t42_37 =>
  GdP (isB t37_33 true) (fun R => Bin Try.prog (At w_4) .eql 2 false false t40_35 t42_37 R) fun t43_38 =>
  Pick t37_33 t43_38 (.bool false) fun t44_39 =>
  GdP (isB t44_39 true) (fun R => FAd 7 a_2_1 R) fun t46_40 =>
  GdP (isB t44_39 true) (fun R => LdC (At w_4) t46_40 R) fun t47_41 =>
  GdP (isB t44_39 true) (fun R => FAd 7 b_3_3 R) fun t48_42 =>
  GdP (isB t44_39 true) (fun R => LdC (At w_4) t48_42 R) fun t49_43 =>
  GdP (isB t44_39 true) (fun R => Bin Try.prog (At w_4) .eql 4 false false t47_41 t49_43 R) fun t50_44 =>
  Pick t44_39 t50_44 (.bool false) fun t51_45 =>
  GdP (isB t51_45 true) (fun R => FAd 3 a_2_1 R) fun t53_46 =>
  GdP (isB t51_45 true) (fun R => LdC (At w_4) t53_46 R) fun t54_47 =>
  GdP (isB t51_45 true) (fun R => FAd 3 b_3_3 R) fun t55_48 =>
  GdP (isB t51_45 true) (fun R => LdC (At w_4) t55_48 R) fun t56_49 =>
  Gd (isB t51_45 true) (fun R => CallF Try.prog 55 #[t54_47, t56_49] w_4 R) w_4 fun t57_50 w_51 =>
  Pick t51_45 t57_50 (.bool false) fun t58_52 =>
  R t58_52 w_51
theorem C_furlongref10_SameLease_ent : Ent Try.prog 86 := ⟨_, Try.func86, by decide, rfl⟩
theorem C_furlongref10_SameLease_link {x0 x1 : Value} {w : World} {R : Value → World → Prop} (h : C_furlongref10_SameLease x0 x1 w R) : CallF Try.prog 86 #[x0, x1] w R :=
  callF_vFun (L := [0, 1, 2, 3, 4]) (args := [x0, x1]) C_furlongref10_SameLease_ent Try.func86 rfl (Eq.mp (show (C_furlongref10_SameLease x0 x1 w R) = vFun Try.prog Try.f86 [0, 1, 2, 3, 4] [x0, x1] w R by kernel_rfl) h)

/-- furlong/command.all[furlong/api.Queue]: function 87 -/
def C_command_all_api_Queue (x0 : Value) (x1 : Value) (w : World) (R : Value → World → Prop) : Prop :=
  Do Try.prog (Instr.alloc 53 true (.tuple #[])) w fun l_5_1 w_2 =>
  CallF Try.prog 105 #[x0, x1] w_2 fun t9_3 w_4 =>
  ∀ r_5 : Go.Loop, (∀ a_6, ∀ (w_7 : World) (k_8 : Value → World → Prop), w_7.heap[w_4.heap.size + 1]? = some (LO r_5 .ready none) → (
   Do Try.prog (Instr.alloc 25 true (.tuple #[])) w_7 fun x_6_9 w_10 =>
   DoU Try.prog (Instr.storeAt 25 x_6_9 a_6) w_10 fun u_11 w_12 =>
   w_12.heap[w_4.heap.size + 1]? = some (LO r_5 .ready none) ∧
   LdC (At (setO w_12 (w_4.heap.size + 1) (LO r_5 .busy none))) l_5_1 fun t11_13 =>
   LdA (At (setO w_12 (w_4.heap.size + 1) (LO r_5 .busy none))) 7 x_6_9 fun t12_14 =>
   Do Try.prog (Instr.buildSlice 53 1 #[(0, t12_14)]) (setO w_12 (w_4.heap.size + 1) (LO r_5 .busy none)) fun t13_15 w_16 =>
   Do Try.prog (Builtin.append_ #[53, 53] 53 #[t11_13, t13_15]) w_16 fun t14_17 w_18 =>
   DoU Try.prog (Instr.storeAt 53 l_5_1 t14_17) w_18 fun u_19 w_20 =>
   w_20.heap[w_4.heap.size + 1]? = some (LO r_5 .busy none) ∧
   k_8 (.bool true) (setO w_20 (w_4.heap.size + 1) (LO r_5 .ready none))) → CallV Try.prog (yv (w_4.heap.size + 1)) #[a_6] w_7 k_8) →
  CallE Try.prog t9_3 #[yv (w_4.heap.size + 1)] (loopW w_4 r_5) fun _ w_21 =>
   (∃ st_22, w_21.heap[w_4.heap.size + 1]? = some (LO r_5 st_22 none) ∧ st_22 ≠ .busy ∧
    LdC (At (setO w_21 (w_4.heap.size + 1) (LO r_5 .exhausted none))) l_5_1 fun t15_23 =>
    (setO w_21 (w_4.heap.size + 1) (LO r_5 .exhausted none)).heap[w_4.heap.size]? = some (.deferred (some [])) ∧
    R t15_23 (setO (setO w_21 (w_4.heap.size + 1) (LO r_5 .exhausted none)) w_4.heap.size (.deferred none)))
theorem C_command_all_api_Queue_ent : Ent Try.prog 87 := ⟨_, Try.func87, by decide, rfl⟩
theorem C_command_all_api_Queue_link {x0 x1 : Value} {w : World} {R : Value → World → Prop} (h : C_command_all_api_Queue x0 x1 w R) : CallF Try.prog 87 #[x0, x1] w R :=
  callF_vFun (L := [0, 1, 4, 5, 6, 9, 10]) (args := [x0, x1]) C_command_all_api_Queue_ent Try.func87 rfl (Eq.mp (show (C_command_all_api_Queue x0 x1 w R) = vFun Try.prog Try.f87 [0, 1, 4, 5, 6, 9, 10] [x0, x1] w R by kernel_rfl) h)

/-- (*furlong/command.reader).queue: function 88 -/
def C_command_reader_queue (x0 : Value) (w : World) (R : Value → World → Prop) : Prop :=
  Do Try.prog (Instr.alloc 25 true (.tuple #[])) w fun t2_1 w_2 =>
  CallF Try.prog 78 #[x0] w_2 fun t4_3 w_4 =>
  CallF Try.prog 78 #[x0] w_4 fun t6_5 w_6 =>
  CallF Try.prog 77 #[x0] w_6 fun t8_7 w_8 =>
  CallF Try.prog 106 #[x0] w_8 fun t10_9 w_10 =>
  CallF Try.prog 106 #[x0] w_10 fun t12_11 w_12 =>
  Bld Try.prog 25 [(0, t4_3), (1, t6_5), (2, t8_7), (3, t10_9), (4, t12_11)] fun t13_13 =>
  DoU Try.prog (Instr.storeAt 25 t2_1 t13_13) w_12 fun u_14 w_15 =>
  LdA (At w_15) 7 t2_1 fun r_16 =>
  R r_16 w_15
theorem C_command_reader_queue_ent : Ent Try.prog 88 := ⟨_, Try.func88, by decide, rfl⟩
theorem C_command_reader_queue_link {x0 : Value} {w : World} {R : Value → World → Prop} (h : C_command_reader_queue x0 w R) : CallF Try.prog 88 #[x0] w R :=
  callF_vFun (L := [0, 2]) (args := [x0]) C_command_reader_queue_ent Try.func88 rfl (Eq.mp (show (C_command_reader_queue x0 w R) = vFun Try.prog Try.f88 [0, 2] [x0] w R by kernel_rfl) h)

/-- furlong/command.all[furlong/api.Node]: function 89 -/
def C_command_all_api_Node (x0 : Value) (x1 : Value) (w : World) (R : Value → World → Prop) : Prop :=
  Do Try.prog (Instr.alloc 54 true (.tuple #[])) w fun l_5_1 w_2 =>
  CallF Try.prog 107 #[x0, x1] w_2 fun t9_3 w_4 =>
  ∀ r_5 : Go.Loop, (∀ a_6, ∀ (w_7 : World) (k_8 : Value → World → Prop), w_7.heap[w_4.heap.size + 1]? = some (LO r_5 .ready none) → (
   Do Try.prog (Instr.alloc 27 true (.tuple #[])) w_7 fun x_6_9 w_10 =>
   DoU Try.prog (Instr.storeAt 27 x_6_9 a_6) w_10 fun u_11 w_12 =>
   w_12.heap[w_4.heap.size + 1]? = some (LO r_5 .ready none) ∧
   LdC (At (setO w_12 (w_4.heap.size + 1) (LO r_5 .busy none))) l_5_1 fun t11_13 =>
   LdA (At (setO w_12 (w_4.heap.size + 1) (LO r_5 .busy none))) 5 x_6_9 fun t12_14 =>
   Do Try.prog (Instr.buildSlice 54 1 #[(0, t12_14)]) (setO w_12 (w_4.heap.size + 1) (LO r_5 .busy none)) fun t13_15 w_16 =>
   Do Try.prog (Builtin.append_ #[54, 54] 54 #[t11_13, t13_15]) w_16 fun t14_17 w_18 =>
   DoU Try.prog (Instr.storeAt 54 l_5_1 t14_17) w_18 fun u_19 w_20 =>
   w_20.heap[w_4.heap.size + 1]? = some (LO r_5 .busy none) ∧
   k_8 (.bool true) (setO w_20 (w_4.heap.size + 1) (LO r_5 .ready none))) → CallV Try.prog (yv (w_4.heap.size + 1)) #[a_6] w_7 k_8) →
  CallE Try.prog t9_3 #[yv (w_4.heap.size + 1)] (loopW w_4 r_5) fun _ w_21 =>
   (∃ st_22, w_21.heap[w_4.heap.size + 1]? = some (LO r_5 st_22 none) ∧ st_22 ≠ .busy ∧
    LdC (At (setO w_21 (w_4.heap.size + 1) (LO r_5 .exhausted none))) l_5_1 fun t15_23 =>
    (setO w_21 (w_4.heap.size + 1) (LO r_5 .exhausted none)).heap[w_4.heap.size]? = some (.deferred (some [])) ∧
    R t15_23 (setO (setO w_21 (w_4.heap.size + 1) (LO r_5 .exhausted none)) w_4.heap.size (.deferred none)))
theorem C_command_all_api_Node_ent : Ent Try.prog 89 := ⟨_, Try.func89, by decide, rfl⟩
theorem C_command_all_api_Node_link {x0 x1 : Value} {w : World} {R : Value → World → Prop} (h : C_command_all_api_Node x0 x1 w R) : CallF Try.prog 89 #[x0, x1] w R :=
  callF_vFun (L := [0, 1, 4, 5, 6, 9, 10]) (args := [x0, x1]) C_command_all_api_Node_ent Try.func89 rfl (Eq.mp (show (C_command_all_api_Node x0 x1 w R) = vFun Try.prog Try.f89 [0, 1, 4, 5, 6, 9, 10] [x0, x1] w R by kernel_rfl) h)

/-- (*furlong/command.reader).node: function 90 -/
def C_command_reader_node (x0 : Value) (w : World) (R : Value → World → Prop) : Prop :=
  Do Try.prog (Instr.alloc 27 true (.tuple #[])) w fun t2_1 w_2 =>
  CallF Try.prog 78 #[x0] w_2 fun t4_3 w_4 =>
  CallF Try.prog 78 #[x0] w_4 fun t6_5 w_6 =>
  CallF Try.prog 77 #[x0] w_6 fun t8_7 w_8 =>
  CallF Try.prog 78 #[x0] w_8 fun t10_9 w_10 =>
  CallF Try.prog 78 #[x0] w_10 fun t12_11 w_12 =>
  Bld Try.prog 27 [(0, t4_3), (1, t6_5), (2, t8_7), (3, t10_9), (4, t12_11)] fun t13_13 =>
  DoU Try.prog (Instr.storeAt 27 t2_1 t13_13) w_12 fun u_14 w_15 =>
  LdA (At w_15) 5 t2_1 fun r_16 =>
  R r_16 w_15
theorem C_command_reader_node_ent : Ent Try.prog 90 := ⟨_, Try.func90, by decide, rfl⟩
theorem C_command_reader_node_link {x0 : Value} {w : World} {R : Value → World → Prop} (h : C_command_reader_node x0 w R) : CallF Try.prog 90 #[x0] w R :=
  callF_vFun (L := [0, 2]) (args := [x0]) C_command_reader_node_ent Try.func90 rfl (Eq.mp (show (C_command_reader_node x0 w R) = vFun Try.prog Try.f90 [0, 2] [x0] w R by kernel_rfl) h)

/-- furlong/command.all[furlong/api.Task]: function 91 -/
def C_command_all_api_Task (x0 : Value) (x1 : Value) (w : World) (R : Value → World → Prop) : Prop :=
  Do Try.prog (Instr.alloc 55 true (.tuple #[])) w fun l_5_1 w_2 =>
  CallF Try.prog 108 #[x0, x1] w_2 fun t9_3 w_4 =>
  ∀ r_5 : Go.Loop, (∀ a_6, ∀ (w_7 : World) (k_8 : Value → World → Prop), w_7.heap[w_4.heap.size + 1]? = some (LO r_5 .ready none) → (
   Do Try.prog (Instr.alloc 30 true (.tuple #[])) w_7 fun x_6_9 w_10 =>
   DoU Try.prog (Instr.storeAt 30 x_6_9 a_6) w_10 fun u_11 w_12 =>
   w_12.heap[w_4.heap.size + 1]? = some (LO r_5 .ready none) ∧
   LdC (At (setO w_12 (w_4.heap.size + 1) (LO r_5 .busy none))) l_5_1 fun t11_13 =>
   LdA (At (setO w_12 (w_4.heap.size + 1) (LO r_5 .busy none))) 7 x_6_9 fun t12_14 =>
   Do Try.prog (Instr.buildSlice 55 1 #[(0, t12_14)]) (setO w_12 (w_4.heap.size + 1) (LO r_5 .busy none)) fun t13_15 w_16 =>
   Do Try.prog (Builtin.append_ #[55, 55] 55 #[t11_13, t13_15]) w_16 fun t14_17 w_18 =>
   DoU Try.prog (Instr.storeAt 55 l_5_1 t14_17) w_18 fun u_19 w_20 =>
   w_20.heap[w_4.heap.size + 1]? = some (LO r_5 .busy none) ∧
   k_8 (.bool true) (setO w_20 (w_4.heap.size + 1) (LO r_5 .ready none))) → CallV Try.prog (yv (w_4.heap.size + 1)) #[a_6] w_7 k_8) →
  CallE Try.prog t9_3 #[yv (w_4.heap.size + 1)] (loopW w_4 r_5) fun _ w_21 =>
   (∃ st_22, w_21.heap[w_4.heap.size + 1]? = some (LO r_5 st_22 none) ∧ st_22 ≠ .busy ∧
    LdC (At (setO w_21 (w_4.heap.size + 1) (LO r_5 .exhausted none))) l_5_1 fun t15_23 =>
    (setO w_21 (w_4.heap.size + 1) (LO r_5 .exhausted none)).heap[w_4.heap.size]? = some (.deferred (some [])) ∧
    R t15_23 (setO (setO w_21 (w_4.heap.size + 1) (LO r_5 .exhausted none)) w_4.heap.size (.deferred none)))
theorem C_command_all_api_Task_ent : Ent Try.prog 91 := ⟨_, Try.func91, by decide, rfl⟩
theorem C_command_all_api_Task_link {x0 x1 : Value} {w : World} {R : Value → World → Prop} (h : C_command_all_api_Task x0 x1 w R) : CallF Try.prog 91 #[x0, x1] w R :=
  callF_vFun (L := [0, 1, 4, 5, 6, 9, 10]) (args := [x0, x1]) C_command_all_api_Task_ent Try.func91 rfl (Eq.mp (show (C_command_all_api_Task x0 x1 w R) = vFun Try.prog Try.f91 [0, 1, 4, 5, 6, 9, 10] [x0, x1] w R by kernel_rfl) h)

/-- (*furlong/command.reader).task: function 92 -/
def C_command_reader_task (x0 : Value) (w : World) (R : Value → World → Prop) : Prop :=
  Do Try.prog (Instr.alloc 30 true (.tuple #[])) w fun t2_1 w_2 =>
  CallF Try.prog 78 #[x0] w_2 fun t4_3 w_4 =>
  CallF Try.prog 78 #[x0] w_4 fun t6_5 w_6 =>
  CallF Try.prog 106 #[x0] w_6 fun t8_7 w_8 =>
  CallF Try.prog 78 #[x0] w_8 fun t10_9 w_10 =>
  CallF Try.prog 82 #[x0, (.func (.func 78) #[x0] #[])] w_10 fun t14_11 w_12 =>
  CallF Try.prog 78 #[x0] w_12 fun t16_13 w_14 =>
  Bld Try.prog 30 [(0, t4_3), (1, t6_5), (2, t8_7), (3, t10_9), (4, t14_11), (5, t16_13)] fun t17_15 =>
  DoU Try.prog (Instr.storeAt 30 t2_1 t17_15) w_14 fun u_16 w_17 =>
  LdA (At w_17) 7 t2_1 fun r_18 =>
  R r_18 w_17
theorem C_command_reader_task_ent : Ent Try.prog 92 := ⟨_, Try.func92, by decide, rfl⟩
theorem C_command_reader_task_link {x0 : Value} {w : World} {R : Value → World → Prop} (h : C_command_reader_task x0 w R) : CallF Try.prog 92 #[x0] w R :=
  callF_vFun (L := [0, 2]) (args := [x0]) C_command_reader_task_ent Try.func92 rfl (Eq.mp (show (C_command_reader_task x0 w R) = vFun Try.prog Try.f92 [0, 2] [x0] w R by kernel_rfl) h)

/-- furlong/command.all[furlong/api.Hunger]: function 93 -/
def C_command_all_api_Hunger (x0 : Value) (x1 : Value) (w : World) (R : Value → World → Prop) : Prop :=
  Do Try.prog (Instr.alloc 56 true (.tuple #[])) w fun l_5_1 w_2 =>
  CallF Try.prog 109 #[x0, x1] w_2 fun t9_3 w_4 =>
  ∀ r_5 : Go.Loop, (∀ a_6, ∀ (w_7 : World) (k_8 : Value → World → Prop), w_7.heap[w_4.heap.size + 1]? = some (LO r_5 .ready none) → (
   Do Try.prog (Instr.alloc 119 true (.tuple #[])) w_7 fun x_6_9 w_10 =>
   DoU Try.prog (Instr.storeAt 119 x_6_9 a_6) w_10 fun u_11 w_12 =>
   w_12.heap[w_4.heap.size + 1]? = some (LO r_5 .ready none) ∧
   LdC (At (setO w_12 (w_4.heap.size + 1) (LO r_5 .busy none))) l_5_1 fun t11_13 =>
   LdA (At (setO w_12 (w_4.heap.size + 1) (LO r_5 .busy none))) 2 x_6_9 fun t12_14 =>
   Do Try.prog (Instr.buildSlice 56 1 #[(0, t12_14)]) (setO w_12 (w_4.heap.size + 1) (LO r_5 .busy none)) fun t13_15 w_16 =>
   Do Try.prog (Builtin.append_ #[56, 56] 56 #[t11_13, t13_15]) w_16 fun t14_17 w_18 =>
   DoU Try.prog (Instr.storeAt 56 l_5_1 t14_17) w_18 fun u_19 w_20 =>
   w_20.heap[w_4.heap.size + 1]? = some (LO r_5 .busy none) ∧
   k_8 (.bool true) (setO w_20 (w_4.heap.size + 1) (LO r_5 .ready none))) → CallV Try.prog (yv (w_4.heap.size + 1)) #[a_6] w_7 k_8) →
  CallE Try.prog t9_3 #[yv (w_4.heap.size + 1)] (loopW w_4 r_5) fun _ w_21 =>
   (∃ st_22, w_21.heap[w_4.heap.size + 1]? = some (LO r_5 st_22 none) ∧ st_22 ≠ .busy ∧
    LdC (At (setO w_21 (w_4.heap.size + 1) (LO r_5 .exhausted none))) l_5_1 fun t15_23 =>
    (setO w_21 (w_4.heap.size + 1) (LO r_5 .exhausted none)).heap[w_4.heap.size]? = some (.deferred (some [])) ∧
    R t15_23 (setO (setO w_21 (w_4.heap.size + 1) (LO r_5 .exhausted none)) w_4.heap.size (.deferred none)))
theorem C_command_all_api_Hunger_ent : Ent Try.prog 93 := ⟨_, Try.func93, by decide, rfl⟩
theorem C_command_all_api_Hunger_link {x0 x1 : Value} {w : World} {R : Value → World → Prop} (h : C_command_all_api_Hunger x0 x1 w R) : CallF Try.prog 93 #[x0, x1] w R :=
  callF_vFun (L := [0, 1, 4, 5, 6, 9, 10]) (args := [x0, x1]) C_command_all_api_Hunger_ent Try.func93 rfl (Eq.mp (show (C_command_all_api_Hunger x0 x1 w R) = vFun Try.prog Try.f93 [0, 1, 4, 5, 6, 9, 10] [x0, x1] w R by kernel_rfl) h)

/-- (*furlong/command.reader).hunger: function 94 -/
def C_command_reader_hunger (x0 : Value) (w : World) (R : Value → World → Prop) : Prop :=
  Do Try.prog (Instr.alloc 119 true (.tuple #[])) w fun t2_1 w_2 =>
  CallF Try.prog 78 #[x0] w_2 fun t4_3 w_4 =>
  CallF Try.prog 77 #[x0] w_4 fun t6_5 w_6 =>
  Bld Try.prog 119 [(0, t4_3), (1, t6_5)] fun t7_7 =>
  DoU Try.prog (Instr.storeAt 119 t2_1 t7_7) w_6 fun u_8 w_9 =>
  LdA (At w_9) 2 t2_1 fun r_10 =>
  R r_10 w_9
theorem C_command_reader_hunger_ent : Ent Try.prog 94 := ⟨_, Try.func94, by decide, rfl⟩
theorem C_command_reader_hunger_link {x0 : Value} {w : World} {R : Value → World → Prop} (h : C_command_reader_hunger x0 w R) : CallF Try.prog 94 #[x0] w R :=
  callF_vFun (L := [0, 2]) (args := [x0]) C_command_reader_hunger_ent Try.func94 rfl (Eq.mp (show (C_command_reader_hunger x0 w R) = vFun Try.prog Try.f94 [0, 2] [x0] w R by kernel_rfl) h)

/-- (*furlong/command.writer).count: function 95 -/
def C_command_writer_count (x0 : Value) (x1 : Value) (w : World) (R : Value → World → Prop) : Prop :=
  Bin Try.prog (At w) .gtr 3 false true x1 (.int .i64 1024) fun t5_1 =>
  ∃ J_2 : World → Prop,
  (∀ w_3, J_2 w_3 → (
   ConvI .u64 x1 fun t11_4 =>
   CallF Try.prog 32 #[x0, t11_4] w_3 fun t12_5 w_6 =>
   R (.tuple #[]) w_6)) ∧
  If t5_1 (
   NilC x0 fun t7_7 =>
   FAd 1 t7_7 fun t8_8 =>
   DoU Try.prog (Instr.storeAt 38 t8_8 (.int .i64 3)) w fun u_9 w_10 =>
   J_2 w_10) (
   J_2 w)
theorem C_command_writer_count_ent : Ent Try.prog 95 := ⟨_, Try.func95, by decide, rfl⟩
theorem C_command_writer_count_link {x0 x1 : Value} {w : World} {R : Value → World → Prop} (h : C_command_writer_count x0 x1 w R) : CallF Try.prog 95 #[x0, x1] w R :=
  callF_vFun (L := [0, 1, 5]) (args := [x0, x1]) C_command_writer_count_ent Try.func95 rfl (Eq.mp (show (C_command_writer_count x0 x1 w R) = vFun Try.prog Try.f95 [0, 1, 5] [x0, x1] w R by kernel_rfl) h)

/-- furlong/furlongref10.lease: function 96 -/
def C_furlongref10_lease (x0 : Value) (w : World) (R : Value → World → Prop) : Prop :=
  Do Try.prog (Instr.box 124 x0) w fun x_1_1 w_2 =>
  FAd 0 x_1_1 fun t4_3 =>
  LdC (At w_2) t4_3 fun t5_4 =>
  FAd 1 x_1_1 fun t6_5 =>
  LdC (At w_2) t6_5 fun t7_6 =>
  FAd 2 x_1_1 fun t8_7 =>
  LdC (At w_2) t8_7 fun t9_8 =>
  Do Try.prog (Instr.buildSlice 81 3 #[(0, t5_4), (1, t7_6), (2, t9_8)]) w_2 fun t10_9 w_10 =>
  CallF Try.prog 37 #[(.slice none 0 0), t10_9] w_10 fun t11_11 w_12 =>
  FAd 3 x_1_1 fun t13_13 =>
  LdC (At w_12) t13_13 fun t14_14 =>
  CallF Try.prog 65 #[t14_14] w_12 fun t15_15 w_16 =>
  Do Try.prog (Builtin.append_ #[37, 37] 37 #[t11_11, t15_15]) w_16 fun t16_17 w_18 =>
  FAd 4 x_1_1 fun t18_19 =>
  LdC (At w_18) t18_19 fun t19_20 =>
  FAd 5 x_1_1 fun t20_21 =>
  LdC (At w_18) t20_21 fun t21_22 =>
  FAd 6 x_1_1 fun t22_23 =>
  LdC (At w_18) t22_23 fun t23_24 =>
  Do Try.prog (Instr.buildSlice 81 3 #[(0, t19_20), (1, t21_22), (2, t23_24)]) w_18 fun t24_25 w_26 =>
  CallF Try.prog 37 #[t16_17, t24_25] w_26 fun t25_27 w_28 =>
  FAd 7 x_1_1 fun t26_29 =>
  LdC (At w_28) t26_29 fun t27_30 =>
  If t27_30 (
   Do Try.prog (Instr.buildSlice 37 1 #[(0, (.int .u8 1))]) w_28 fun t29_31 w_32 =>
   Do Try.prog (Builtin.append_ #[37, 37] 37 #[t25_27, t29_31]) w_32 fun t30_33 w_34 =>
   R t30_33 w_34) (
   Do Try.prog (Instr.buildSlice 37 1 #[(0, (.int .u8 0))]) w_28 fun t32_35 w_36 =>
   Do Try.prog (Builtin.append_ #[37, 37] 37 #[t25_27, t32_35]) w_36 fun t33_37 w_38 =>
   R t33_37 w_38)
theorem C_furlongref10_lease_ent : Ent Try.prog 96 := ⟨_, Try.func96, by decide, rfl⟩
theorem C_furlongref10_lease_link {x0 : Value} {w : World} {R : Value → World → Prop} (h : C_furlongref10_lease x0 w R) : CallF Try.prog 96 #[x0] w R :=
  callF_vFun (L := [0, 1, 2, 3, 27]) (args := [x0]) C_furlongref10_lease_ent Try.func96 rfl (Eq.mp (show (C_furlongref10_lease x0 w R) = vFun Try.prog Try.f96 [0, 1, 2, 3, 27] [x0] w R by kernel_rfl) h)

/-- furlong/strip.Size: function 97 -/
def C_strip_Size (x0 : Value) (w : World) (R : Value → World → Prop) : Prop :=
  Bin Try.prog (At w) .lss 75 false true x0 (.int .u64 192) fun t5_1 =>
  If t5_1 (
   R (.int .i64 1) w) (
   ∃ (I_2 : Nat → Value → World → Prop) (m_3 : Nat), I_2 m_3 (.int .i64 1) w ∧
   ∀ m_4, ∀ k_3_5, ∀ w_6, I_2 m_4 k_3_5 w_6 →
    Bin Try.prog (At w_6) .lss 3 false true k_3_5 (.int .i64 8) fun t7_7 =>
    GdP (isB t7_7 true) (fun R => R x0) fun t9_8 =>
    GdP (isB t7_7 true) (fun R => R k_3_5) fun t10_9 =>
    GdP (isB t7_7 true) (fun R => Bin Try.prog (At w_6) .add 3 false true t10_9 (.int .i64 1) R) fun t11_10 =>
    Gd (isB t7_7 true) (fun R => CallF Try.prog 98 #[t11_10] w_6 R) w_6 fun t12_11 w_12 =>
    GdP (isB t7_7 true) (fun R => Bin Try.prog (At w_12) .geq 75 false false t9_8 t12_11 R) fun t13_13 =>
    Pick t7_7 t13_13 (.bool false) fun t14_14 =>
    If t14_14 (
     Bin Try.prog (At w_12) .add 3 false true k_3_5 (.int .i64 1) fun t16_15 =>
     ∃ m_16, m_16 < m_4 ∧
     I_2 m_16 t16_15 w_12) (
     Bin Try.prog (At w_12) .add 3 true false (.int .i64 1) k_3_5 fun t18_17 =>
     R t18_17 w_12))
theorem C_strip_Size_ent : Ent Try.prog 97 := ⟨_, Try.func97, by decide, rfl⟩
theorem C_strip_Size_link {x0 : Value} {w : World} {R : Value → World → Prop} (h : C_strip_Size x0 w R) : CallF Try.prog 97 #[x0] w R :=
  callF_vFun (L := [0, 2, 3, 5, 14]) (args := [x0]) C_strip_Size_ent Try.func97 rfl (Eq.mp (show (C_strip_Size x0 w R) = vFun Try.prog Try.f97 [0, 2, 3, 5, 14] [x0] w R by kernel_rfl) h)

/-- furlong/strip.shelf: function 98 -/
def C_strip_shelf (x0 : Value) (w : World) (R : Value → World → Prop) : Prop :=
  Bin Try.prog (At w) .sub 3 false true x0 (.int .i64 1) fun t6_1 =>
  ∃ (I_2 : Nat → Value → Value → World → Prop) (m_3 : Nat), I_2 m_3 (.int .u64 192) (.int .i64 0) w ∧
  ∀ m_4, ∀ x_3_5, ∀ t7_6, ∀ w_7, I_2 m_4 x_3_5 t7_6 w_7 →
   Bin Try.prog (At w_7) .lss 3 false false t7_6 t6_1 fun t8_8 =>
   If t8_8 (
    Bin Try.prog (At w_7) .add 3 false true t7_6 (.int .i64 1) fun t12_9 =>
    Bin Try.prog (At w_7) .mul 3 true false (.int .i64 8) t12_9 fun t13_10 =>
    Bin Try.prog (At w_7) .shl 75 true false (.int .u64 1) t13_10 fun t14_11 =>
    Bin Try.prog (At w_7) .add 75 false false x_3_5 t14_11 fun t15_12 =>
    Bin Try.prog (At w_7) .add 3 false true t7_6 (.int .i64 1) fun t16_13 =>
    ∃ m_14, m_14 < m_4 ∧
    I_2 m_14 t15_12 t16_13 w_7) (
    R x_3_5 w_7)
theorem C_strip_shelf_ent : Ent Try.prog 98 := ⟨_, Try.func98, by decide, rfl⟩
theorem C_strip_shelf_link {x0 : Value} {w : World} {R : Value → World → Prop} (h : C_strip_shelf x0 w R) : CallF Try.prog 98 #[x0] w R :=
  callF_vFun (L := [0, 2, 3, 4, 6, 7, 8]) (args := [x0]) C_strip_shelf_ent Try.func98 rfl (Eq.mp (show (C_strip_shelf x0 w R) = vFun Try.prog Try.f98 [0, 2, 3, 4, 6, 7, 8] [x0] w R by kernel_rfl) h)

/-- furlong/strip.ReadInt: function 99 -/
def C_strip_ReadInt (x0 : Value) (x1 : Value) (w : World) (R : Value → World → Prop) : Prop :=
  CallF Try.prog 110 #[x0, x1] w fun t13_1 w_2 =>
  Ext t13_1 0 fun t14_3 =>
  Ext t13_1 1 fun t15_4 =>
  Ext t13_1 2 fun t16_5 =>
  Bin Try.prog (At w_2) .rem 75 false true t14_3 (.int .u64 2) fun t18_6 =>
  Bin Try.prog (At w_2) .eql 75 false true t18_6 (.int .u64 1) fun t19_7 =>
  If t19_7 (
   Bin Try.prog (At w_2) .quo 75 false true t14_3 (.int .u64 2) fun t21_8 =>
   ConvI .i64 t21_8 fun t22_9 =>
   Un Try.prog (At w_2) .xor t22_9 fun t23_10 =>
   R (.tuple #[t23_10, t15_4, t16_5]) w_2) (
   Bin Try.prog (At w_2) .quo 75 false true t14_3 (.int .u64 2) fun t27_11 =>
   ConvI .i64 t27_11 fun t28_12 =>
   R (.tuple #[t28_12, t15_4, t16_5]) w_2)
theorem C_strip_ReadInt_ent : Ent Try.prog 99 := ⟨_, Try.func99, by decide, rfl⟩
theorem C_strip_ReadInt_link {x0 x1 : Value} {w : World} {R : Value → World → Prop} (h : C_strip_ReadInt x0 x1 w R) : CallF Try.prog 99 #[x0, x1] w R :=
  callF_vFun (L := [0, 1, 4, 5, 6, 7, 8, 9, 19]) (args := [x0, x1]) C_strip_ReadInt_ent Try.func99 rfl (Eq.mp (show (C_strip_ReadInt x0 x1 w R) = vFun Try.prog Try.f99 [0, 1, 4, 5, 6, 7, 8, 9, 19] [x0, x1] w R by kernel_rfl) h)

/-- (*furlong/command.reader).upto: function 100 -/
def C_command_reader_upto (x0 : Value) (x1 : Value) (x2 : Value) (w : World) (R : Value → World → Prop) : Prop :=
  NilC x0 fun t12_1 =>
  FAd 2 t12_1 fun t13_2 =>
  LdC (At w) t13_2 fun t14_3 =>
  Bin Try.prog (At w) .neq 38 false true t14_3 (.int .i64 0) fun t15_4 =>
  If t15_4 (
   R (.int .u64 0) w) (
   NilC x0 fun t17_5 =>
   FAd 1 t17_5 fun t18_6 =>
   LdC (At w) t18_6 fun t19_7 =>
   ∃ S_8 : World → Prop, S_8 (World.drew w) ∧
   NilC x0 fun t22_9 =>
   FAd 0 t22_9 fun t23_10 =>
   LdC S_8 t23_10 fun t24_11 =>
   NilC x0 fun t26_12 =>
   FAd 1 t26_12 fun t27_13 =>
   LdC S_8 t27_13 fun t28_14 =>
   CallF Try.prog 110 #[t24_11, t28_14] (World.drew w) fun t29_15 w_16 =>
   Ext t29_15 0 fun t30_17 =>
   Ext t29_15 1 fun t31_18 =>
   Ext t29_15 2 fun t32_19 =>
   NilC x0 fun t37_20 =>
   FAd 1 t37_20 fun t38_21 =>
   DoU Try.prog (Instr.storeAt 3 t38_21 t31_18) w_16 fun u_22 w_23 =>
   NilC x0 fun t39_24 =>
   FAd 2 t39_24 fun t40_25 =>
   DoU Try.prog (Instr.storeAt 38 t40_25 t32_19) w_23 fun u_26 w_27 =>
   Bin Try.prog (At w_27) .eql 38 false true t32_19 (.int .i64 0) fun t42_28 =>
   GdP (isB t42_28 true) (fun R => R t30_17) fun t44_29 =>
   GdP (isB t42_28 true) (fun R => R x1) fun t45_30 =>
   GdP (isB t42_28 true) (fun R => Bin Try.prog (At w_27) .gtr 75 false false t44_29 t45_30 R) fun t46_31 =>
   Pick t42_28 t46_31 (.bool false) fun t47_32 =>
   If t47_32 (
    NilC x0 fun t52_33 =>
    FAd 1 t52_33 fun t53_34 =>
    DoU Try.prog (Instr.storeAt 3 t53_34 t19_7) w_27 fun u_35 w_36 =>
    NilC x0 fun t54_37 =>
    FAd 2 t54_37 fun t55_38 =>
    DoU Try.prog (Instr.storeAt 38 t55_38 x2) w_36 fun u_39 w_40 =>
    R (.int .u64 0) w_40) (
    R t30_17 w_27))
theorem C_command_reader_upto_ent : Ent Try.prog 100 := ⟨_, Try.func100, by decide, rfl⟩
theorem C_command_reader_upto_link {x0 x1 x2 : Value} {w : World} {R : Value → World → Prop} (h : C_command_reader_upto x0 x1 x2 w R) : CallF Try.prog 100 #[x0, x1, x2] w R :=
  callF_vFun (L := [0, 1, 2, 6, 7, 8, 9, 10, 15, 47]) (args := [x0, x1, x2]) C_command_reader_upto_ent Try.func100 rfl (Eq.mp (show (C_command_reader_upto x0 x1 x2 w R) = vFun Try.prog Try.f100 [0, 1, 2, 6, 7, 8, 9, 10, 15, 47] [x0, x1, x2] w R by kernel_rfl) h)

/-- furlong/furlongref03.GetWhole: function 101 -/
def C_furlongref03_GetWhole (x0 : Value) (x1 : Value) (w : World) (R : Value → World → Prop) : Prop :=
  CallF Try.prog 81 #[x0, x1] w fun t14_1 w_2 =>
  Ext t14_1 0 fun t15_3 =>
  Ext t14_1 1 fun t16_4 =>
  Ext t14_1 2 fun t17_5 =>
  Bin Try.prog (At w_2) .quo 75 false true t15_3 (.int .u64 2) fun t19_6 =>
  ConvI .i64 t19_6 fun t20_7 =>
  Bin Try.prog (At w_2) .rem 75 false true t15_3 (.int .u64 2) fun t22_8 =>
  Bin Try.prog (At w_2) .eql 75 false true t22_8 (.int .u64 1) fun t23_9 =>
  ∃ J_10 : Value → World → Prop,
  (∀ half_10_11, ∀ w_12, J_10 half_10_11 w_12 → (
   R (.tuple #[half_10_11, t16_4, t17_5]) w_12)) ∧
  If t23_9 (
   Un Try.prog (At w_2) .neg t20_7 fun t25_13 =>
   Bin Try.prog (At w_2) .sub 2 false true t25_13 (.int .i64 1) fun t26_14 =>
   J_10 t26_14 w_2) (
   J_10 t20_7 w_2)
theorem C_furlongref03_GetWhole_ent : Ent Try.prog 101 := ⟨_, Try.func101, by decide, rfl⟩
theorem C_furlongref03_GetWhole_link {x0 x1 : Value} {w : World} {R : Value → World → Prop} (h : C_furlongref03_GetWhole x0 x1 w R) : CallF Try.prog 101 #[x0, x1] w R :=
  callF_vFun (L := [0, 1, 4, 5, 6, 7, 8, 9, 10, 23]) (args := [x0, x1]) C_furlongref03_GetWhole_ent Try.func101 rfl (Eq.mp (show (C_furlongref03_GetWhole x0 x1 w R) = vFun Try.prog Try.f101 [0, 1, 4, 5, 6, 7, 8, 9, 10, 23] [x0, x1] w R by kernel_rfl) h)

/-- furlong/furlongref03.begins: function 102 -/
def C_furlongref03_begins (x0 : Value) (w : World) (R : Value → World → Prop) : Prop :=
  ∃ (I_1 : Nat → Value → Value → Value → World → Prop) (m_2 : Nat), I_1 m_2 (.int .u64 192) (.int .u64 256) (.int .i64 1) w ∧
  ∀ m_3, ∀ x_3_4, ∀ size_4_5, ∀ i_5_6, ∀ w_7, I_1 m_3 x_3_4 size_4_5 i_5_6 w_7 →
   Bin Try.prog (At w_7) .lss 3 false false i_5_6 x0 fun t8_8 =>
   If t8_8 (
    Bin Try.prog (At w_7) .add 75 false false x_3_4 size_4_5 fun t13_9 =>
    Bin Try.prog (At w_7) .mul 75 false true size_4_5 (.int .u64 256) fun t15_10 =>
    Bin Try.prog (At w_7) .add 3 false true i_5_6 (.int .i64 1) fun t10_11 =>
    ∃ m_12, m_12 < m_3 ∧
    I_1 m_12 t13_9 t15_10 t10_11 w_7) (
    R x_3_4 w_7)
theorem C_furlongref03_begins_ent : Ent Try.prog 102 := ⟨_, Try.func102, by decide, rfl⟩
theorem C_furlongref03_begins_link {x0 : Value} {w : World} {R : Value → World → Prop} (h : C_furlongref03_begins x0 w R) : CallF Try.prog 102 #[x0] w R :=
  callF_vFun (L := [0, 2, 3, 4, 5, 8]) (args := [x0]) C_furlongref03_begins_ent Try.func102 rfl (Eq.mp (show (C_furlongref03_begins x0 w R) = vFun Try.prog Try.f102 [0, 2, 3, 4, 5, 8] [x0] w R by kernel_rfl) h)

/-- furlong/command.things[int]: function 103 -/
def C_command_things_int (x0 : Value) (x1 : Value) (w : World) (R : Value → World → Prop) : Prop :=
  Do Try.prog (Instr.box 90 x0) w fun r_2_1 w_2 =>
  Do Try.prog (Instr.box 142 x1) w_2 fun one_3_3 w_4 =>
  R (.func (.func 111) #[] #[r_2_1, one_3_3]) w_4
theorem C_command_things_int_ent : Ent Try.prog 103 := ⟨_, Try.func103, by decide, rfl⟩
theorem C_command_things_int_link {x0 x1 : Value} {w : World} {R : Value → World → Prop} (h : C_command_things_int x0 x1 w R) : CallF Try.prog 103 #[x0, x1] w R :=
  callF_vFun (L := [0, 1, 2, 3, 4]) (args := [x0, x1]) C_command_things_int_ent Try.func103 rfl (Eq.mp (show (C_command_things_int x0 x1 w R) = vFun Try.prog Try.f103 [0, 1, 2, 3, 4] [x0, x1] w R by kernel_rfl) h)

/-- furlong/command.things[furlong/api.Lease]: function 104 -/
def C_command_things_api_Lease (x0 : Value) (x1 : Value) (w : World) (R : Value → World → Prop) : Prop :=
  Do Try.prog (Instr.box 90 x0) w fun r_2_1 w_2 =>
  Do Try.prog (Instr.box 150 x1) w_2 fun one_3_3 w_4 =>
  R (.func (.func 112) #[] #[r_2_1, one_3_3]) w_4
theorem C_command_things_api_Lease_ent : Ent Try.prog 104 := ⟨_, Try.func104, by decide, rfl⟩
theorem C_command_things_api_Lease_link {x0 x1 : Value} {w : World} {R : Value → World → Prop} (h : C_command_things_api_Lease x0 x1 w R) : CallF Try.prog 104 #[x0, x1] w R :=
  callF_vFun (L := [0, 1, 2, 3, 4]) (args := [x0, x1]) C_command_things_api_Lease_ent Try.func104 rfl (Eq.mp (show (C_command_things_api_Lease x0 x1 w R) = vFun Try.prog Try.f104 [0, 1, 2, 3, 4] [x0, x1] w R by kernel_rfl) h)

/-- furlong/command.things[furlong/api.Queue]: function 105 -/
def C_command_things_api_Queue (x0 : Value) (x1 : Value) (w : World) (R : Value → World → Prop) : Prop :=
  Do Try.prog (Instr.box 90 x0) w fun r_2_1 w_2 =>
  Do Try.prog (Instr.box 155 x1) w_2 fun one_3_3 w_4 =>
  R (.func (.func 113) #[] #[r_2_1, one_3_3]) w_4
theorem C_command_things_api_Queue_ent : Ent Try.prog 105 := ⟨_, Try.func105, by decide, rfl⟩
theorem C_command_things_api_Queue_link {x0 x1 : Value} {w : World} {R : Value → World → Prop} (h : C_command_things_api_Queue x0 x1 w R) : CallF Try.prog 105 #[x0, x1] w R :=
  callF_vFun (L := [0, 1, 2, 3, 4]) (args := [x0, x1]) C_command_things_api_Queue_ent Try.func105 rfl (Eq.mp (show (C_command_things_api_Queue x0 x1 w R) = vFun Try.prog Try.f105 [0, 1, 2, 3, 4] [x0, x1] w R by kernel_rfl) h)

/-- (*furlong/command.reader).vec: function 106 -/
def C_command_reader_vec (x0 : Value) (w : World) (R : Value → World → Prop) : Prop :=
  Do Try.prog (Instr.alloc 23 true (.tuple #[])) w fun t2_1 w_2 =>
  CallF Try.prog 77 #[x0] w_2 fun t4_3 w_4 =>
  CallF Try.prog 77 #[x0] w_4 fun t6_5 w_6 =>
  Bld Try.prog 23 [(0, t4_3), (1, t6_5)] fun t7_7 =>
  DoU Try.prog (Instr.storeAt 23 t2_1 t7_7) w_6 fun u_8 w_9 =>
  LdA (At w_9) 2 t2_1 fun r_10 =>
  R r_10 w_9
theorem C_command_reader_vec_ent : Ent Try.prog 106 := ⟨_, Try.func106, by decide, rfl⟩
theorem C_command_reader_vec_link {x0 : Value} {w : World} {R : Value → World → Prop} (h : C_command_reader_vec x0 w R) : CallF Try.prog 106 #[x0] w R :=
  callF_vFun (L := [0, 2]) (args := [x0]) C_command_reader_vec_ent Try.func106 rfl (Eq.mp (show (C_command_reader_vec x0 w R) = vFun Try.prog Try.f106 [0, 2] [x0] w R by kernel_rfl) h)

/-- furlong/command.things[furlong/api.Node]: function 107 -/
def C_command_things_api_Node (x0 : Value) (x1 : Value) (w : World) (R : Value → World → Prop) : Prop :=
  Do Try.prog (Instr.box 90 x0) w fun r_2_1 w_2 =>
  Do Try.prog (Instr.box 157 x1) w_2 fun one_3_3 w_4 =>
  R (.func (.func 114) #[] #[r_2_1, one_3_3]) w_4
theorem C_command_things_api_Node_ent : Ent Try.prog 107 := ⟨_, Try.func107, by decide, rfl⟩
theorem C_command_things_api_Node_link {x0 x1 : Value} {w : World} {R : Value → World → Prop} (h : C_command_things_api_Node x0 x1 w R) : CallF Try.prog 107 #[x0, x1] w R :=
  callF_vFun (L := [0, 1, 2, 3, 4]) (args := [x0, x1]) C_command_things_api_Node_ent Try.func107 rfl (Eq.mp (show (C_command_things_api_Node x0 x1 w R) = vFun Try.prog Try.f107 [0, 1, 2, 3, 4] [x0, x1] w R by kernel_rfl) h)

/-- furlong/command.things[furlong/api.Task]: function 108 -/
def C_command_things_api_Task (x0 : Value) (x1 : Value) (w : World) (R : Value → World → Prop) : Prop :=
  Do Try.prog (Instr.box 90 x0) w fun r_2_1 w_2 =>
  Do Try.prog (Instr.box 159 x1) w_2 fun one_3_3 w_4 =>
  R (.func (.func 115) #[] #[r_2_1, one_3_3]) w_4
theorem C_command_things_api_Task_ent : Ent Try.prog 108 := ⟨_, Try.func108, by decide, rfl⟩
theorem C_command_things_api_Task_link {x0 x1 : Value} {w : World} {R : Value → World → Prop} (h : C_command_things_api_Task x0 x1 w R) : CallF Try.prog 108 #[x0, x1] w R :=
  callF_vFun (L := [0, 1, 2, 3, 4]) (args := [x0, x1]) C_command_things_api_Task_ent Try.func108 rfl (Eq.mp (show (C_command_things_api_Task x0 x1 w R) = vFun Try.prog Try.f108 [0, 1, 2, 3, 4] [x0, x1] w R by kernel_rfl) h)

/-- furlong/command.things[furlong/api.Hunger]: function 109 -/
def C_command_things_api_Hunger (x0 : Value) (x1 : Value) (w : World) (R : Value → World → Prop) : Prop :=
  Do Try.prog (Instr.box 90 x0) w fun r_2_1 w_2 =>
  Do Try.prog (Instr.box 161 x1) w_2 fun one_3_3 w_4 =>
  R (.func (.func 116) #[] #[r_2_1, one_3_3]) w_4
theorem C_command_things_api_Hunger_ent : Ent Try.prog 109 := ⟨_, Try.func109, by decide, rfl⟩
theorem C_command_things_api_Hunger_link {x0 x1 : Value} {w : World} {R : Value → World → Prop} (h : C_command_things_api_Hunger x0 x1 w R) : CallF Try.prog 109 #[x0, x1] w R :=
  callF_vFun (L := [0, 1, 2, 3, 4]) (args := [x0, x1]) C_command_things_api_Hunger_ent Try.func109 rfl (Eq.mp (show (C_command_things_api_Hunger x0 x1 w R) = vFun Try.prog Try.f109 [0, 1, 2, 3, 4] [x0, x1] w R by kernel_rfl) h)

/-- furlong/strip.Read: function 110 -/
def C_strip_Read (x0 : Value) (x1 : Value) (w : World) (R : Value → World → Prop) : Prop :=
  Bin Try.prog (At w) .lss 3 false true x1 (.int .i64 0) fun t15_1 =>
  GdP (isB t15_1 false) (fun R => R x1) fun t17_2 =>
  GdP (isB t15_1 false) (fun R => R x0) fun t18_3 =>
  GdP (isB t15_1 false) (fun R => Len t18_3 R) fun t19_4 =>
  GdP (isB t15_1 false) (fun R => Bin Try.prog (At w) .gtr 3 false false t17_2 t19_4 R) fun t20_5 =>
  Pick t15_1 (.bool true) t20_5 fun t21_6 =>
  If t21_6 (
   R (.tuple #[(.int .u64 0), (.int .i64 0), (.int .i64 1)]) w) (
   Len x0 fun t25_7 =>
   Bin Try.prog (At w) .eql 3 false false x1 t25_7 fun t26_8 =>
   If t26_8 (
    R (.tuple #[(.int .u64 0), x1, (.int .i64 5)]) w) (
    IAdS 1 x0 x1 fun t31_9 =>
    LdC (At w) t31_9 fun t32_10 =>
    Bin Try.prog (At w) .lss 5 false true t32_10 (.int .u8 192) fun t33_11 =>
    If t33_11 (
     IAdS 1 x0 x1 fun t36_12 =>
     LdC (At w) t36_12 fun t37_13 =>
     ConvI .u64 t37_13 fun t38_14 =>
     Bin Try.prog (At w) .add 3 false true x1 (.int .i64 1) fun t40_15 =>
     R (.tuple #[t38_14, t40_15, (.int .i64 0)]) w) (
     IAdS 1 x0 x1 fun t44_16 =>
     LdC (At w) t44_16 fun t45_17 =>
     Bin Try.prog (At w) .gtr 5 false true t45_17 (.int .u8 199) fun t46_18 =>
     If t46_18 (
      R (.tuple #[(.int .u64 0), x1, (.int .i64 4)]) w) (
      IAdS 1 x0 x1 fun t50_19 =>
      LdC (At w) t50_19 fun t51_20 =>
      ConvI .i64 t51_20 fun t52_21 =>
      Bin Try.prog (At w) .sub 3 false true t52_21 (.int .i64 192) fun t53_22 =>
      Bin Try.prog (At w) .add 3 false true t53_22 (.int .i64 1) fun t54_23 =>
      Bin Try.prog (At w) .add 3 false true x1 (.int .i64 1) fun t58_24 =>
      SlcS 1 x0 (some t58_24) none none fun t59_25 =>
      Len t59_25 fun t60_26 =>
      ∃ J_27 : Value → Value → Value → World → Prop,
      (∀ x_8_28, ∀ left_9_29, ∀ t61_30, ∀ w_31, J_27 x_8_28 left_9_29 t61_30 w_31 → (
       CallF Try.prog 98 #[t54_23] w_31 fun t76_32 w_33 =>
       Bin Try.prog (At w_33) .gtr 3 false true left_9_29 (.int .i64 0) fun t79_34 =>
       If t79_34 (
        Len x0 fun t81_35 =>
        R (.tuple #[(.int .u64 0), t81_35, (.int .i64 5)]) w_33) (
        Bin Try.prog (At w_33) .add 75 false false x_8_28 t76_32 fun t85_36 =>
        Bin Try.prog (At w_33) .lss 75 false false t85_36 t76_32 fun t87_37 =>
        If t87_37 (
         R (.tuple #[(.int .u64 0), x1, (.int .i64 4)]) w_33) (
         Bin Try.prog (At w_33) .add 75 false false x_8_28 t76_32 fun t91_38 =>
         Bin Try.prog (At w_33) .add 3 false true x1 (.int .i64 1) fun t93_39 =>
         Bin Try.prog (At w_33) .add 3 false false t93_39 t54_23 fun t95_40 =>
         R (.tuple #[t91_38, t95_40, (.int .i64 0)]) w_33)))) ∧
      ∃ (I_41 : Nat → Value → Value → Value → World → Prop) (m_42 : Nat), I_41 m_42 (.int .u64 0) t54_23 (.int .i64 0) w ∧
      ∀ m_43, ∀ x_8_44, ∀ left_9_45, ∀ t61_46, ∀ w_47, I_41 m_43 x_8_44 left_9_45 t61_46 w_47 →
       Bin Try.prog (At w_47) .lss 3 false false t61_46 t60_26 fun t62_48 =>
       If t62_48 (
        IAdS 1 t59_25 t61_46 fun t63_49 =>
        LdC (At w_47) t63_49 fun t64_50 =>
        Bin Try.prog (At w_47) .shl 75 false true x_8_44 (.int .u64 8) fun t66_51 =>
        ConvI .u64 t64_50 fun t68_52 =>
        Bin Try.prog (At w_47) .or 75 false false t66_51 t68_52 fun t69_53 =>
        Bin Try.prog (At w_47) .sub 3 false true left_9_45 (.int .i64 1) fun t71_54 =>
        Bin Try.prog (At w_47) .eql 3 false true t71_54 (.int .i64 0) fun t73_55 =>
        If t73_55 (
         J_27 t69_53 t71_54 t61_46 w_47) (
         Bin Try.prog (At w_47) .add 3 false true t61_46 (.int .i64 1) fun t74_56 =>
         ∃ m_57, m_57 < m_43 ∧
         I_41 m_57 t69_53 t71_54 t74_56 w_47)) (
        J_27 x_8_44 left_9_45 t61_46 w_47)))))
theorem C_strip_Read_ent : Ent Try.prog 110 := ⟨_, Try.func110, by decide, rfl⟩
theorem C_strip_Read_link {x0 x1 : Value} {w : World} {R : Value → World → Prop} (h : C_strip_Read x0 x1 w R) : CallF Try.prog 110 #[x0, x1] w R :=
  callF_vFun (L := [0, 1, 4, 5, 6, 7, 8, 9, 11, 12, 13, 22, 28, 41, 59, 60, 61, 62, 73, 77, 82]) (args := [x0, x1]) C_strip_Read_ent Try.func110 rfl (Eq.mp (show (C_strip_Read x0 x1 w R) = vFun Try.prog Try.f110 [0, 1, 4, 5, 6, 7, 8, 9, 11, 12, 13, 22, 28, 41, 59, 60, 61, 62, 73, 77, 82] [x0, x1] w R by kernel_rfl) h)

/-- furlong/command.things[int]$1: function 111 -/
def C_command_things_int_1 (x0 : Value) (x1 : Value) (x2 : Value) (w : World) (R : Value → World → Prop) : Prop :=
  LdC (At w) x1 fun t5_1 =>
  CallF Try.prog 100 #[t5_1, (.int .u64 1024), (.int .i64 3)] w fun t6_2 w_3 =>
  ∃ (I_4 : Nat → Value → World → Prop) (m_5 : Nat), I_4 m_5 (.int .u64 0) w_3 ∧
  ∀ m_6, ∀ t7_7, ∀ w_8, I_4 m_6 t7_7 w_8 →
   Bin Try.prog (At w_8) .lss 75 false false t7_7 t6_2 fun t8_9 =>
   If t8_9 (
    LdC (At w_8) x2 fun t9_10 =>
    CallV Try.prog t9_10 #[] w_8 fun t10_11 w_12 =>
    LdC (At w_12) x1 fun t11_13 =>
    NilC t11_13 fun t12_14 =>
    FAd 2 t12_14 fun t13_15 =>
    LdC (At w_12) t13_15 fun t14_16 =>
    Bin Try.prog (At w_12) .neq 38 false true t14_16 (.int .i64 0) fun t15_17 =>
    GdP (isB t15_17 false) (fun R => R x0) fun t17_18 =>
    GdP (isB t15_17 false) (fun R => R t10_11) fun t18_19 =>
    Gd (isB t15_17 false) (fun R => CallV Try.prog t17_18 #[t18_19] w_12 R) w_12 fun t19_20 w_21 =>
    GdP (isB t15_17 false) (fun R => Un Try.prog (At w_21) .not t19_20 R) fun t20_22 =>
    Pick t15_17 (.bool true) t20_22 fun t21_23 =>
    If t21_23 (
     R (.tuple #[]) w_21) (
     Bin Try.prog (At w_21) .add 75 false true t7_7 (.int .u64 1) fun t22_24 =>
     ∃ m_25, m_25 < m_6 ∧
     I_4 m_25 t22_24 w_21)) (
    R (.tuple #[]) w_8)
theorem C_command_things_int_1_ent : Ent Try.prog 111 := ⟨_, Try.func111, by decide, rfl⟩
theorem C_command_things_int_1_link {x0 x1 x2 : Value} {w : World} {R : Value → World → Prop} (h : C_command_things_int_1 x0 x1 x2 w R) : CallF Try.prog 111 #[x0, x1, x2] w R :=
  callF_vFun (L := [0, 1, 2, 4, 6, 7, 8, 21]) (args := [x0, x1, x2]) C_command_things_int_1_ent Try.func111 rfl (Eq.mp (show (C_command_things_int_1 x0 x1 x2 w R) = vFun Try.prog Try.f111 [0, 1, 2, 4, 6, 7, 8, 21] [x0, x1, x2] w R by kernel_rfl) h)

/-- furlong/command.things[furlong/api.Lease]$1: function 112 -/
def C_command_things_api_Lease_1 (x0 : Value) (x1 : Value) (x2 : Value) (w : World) (R : Value → World → Prop) : Prop :=
  LdC (At w) x1 fun t5_1 =>
  CallF Try.prog 100 #[t5_1, (.int .u64 1024), (.int .i64 3)] w fun t6_2 w_3 =>
  ∃ (I_4 : Nat → Value → World → Prop) (m_5 : Nat), I_4 m_5 (.int .u64 0) w_3 ∧
  ∀ m_6, ∀ t7_7, ∀ w_8, I_4 m_6 t7_7 w_8 →
   Bin Try.prog (At w_8) .lss 75 false false t7_7 t6_2 fun t8_9 =>
   If t8_9 (
    LdC (At w_8) x2 fun t9_10 =>
    CallV Try.prog t9_10 #[] w_8 fun t10_11 w_12 =>
    Do Try.prog (Instr.alloc 124 true (.tuple #[])) w_12 fun x_4_13 w_14 =>
    DoU Try.prog (Instr.storeAt 124 x_4_13 t10_11) w_14 fun u_15 w_16 =>
    LdC (At w_16) x1 fun t11_17 =>
    NilC t11_17 fun t12_18 =>
    FAd 2 t12_18 fun t13_19 =>
    LdC (At w_16) t13_19 fun t14_20 =>
    Bin Try.prog (At w_16) .neq 38 false true t14_20 (.int .i64 0) fun t15_21 =>
    GdP (isB t15_21 false) (fun R => R x0) fun t17_22 =>
    GdP (isB t15_21 false) (fun R => LdA (At w_16) 8 x_4_13 R) fun t18_23 =>
    Gd (isB t15_21 false) (fun R => CallV Try.prog t17_22 #[t18_23] w_16 R) w_16 fun t19_24 w_25 =>
    GdP (isB t15_21 false) (fun R => Un Try.prog (At w_25) .not t19_24 R) fun t20_26 =>
    Pick t15_21 (.bool true) t20_26 fun t21_27 =>
    If t21_27 (
     R (.tuple #[]) w_25) (
     Bin Try.prog (At w_25) .add 75 false true t7_7 (.int .u64 1) fun t22_28 =>
     ∃ m_29, m_29 < m_6 ∧
     I_4 m_29 t22_28 w_25)) (
    R (.tuple #[]) w_8)
theorem C_command_things_api_Lease_1_ent : Ent Try.prog 112 := ⟨_, Try.func112, by decide, rfl⟩
theorem C_command_things_api_Lease_1_link {x0 x1 x2 : Value} {w : World} {R : Value → World → Prop} (h : C_command_things_api_Lease_1 x0 x1 x2 w R) : CallF Try.prog 112 #[x0, x1, x2] w R :=
  callF_vFun (L := [0, 1, 2, 4, 6, 7, 8, 21]) (args := [x0, x1, x2]) C_command_things_api_Lease_1_ent Try.func112 rfl (Eq.mp (show (C_command_things_api_Lease_1 x0 x1 x2 w R) = vFun Try.prog Try.f112 [0, 1, 2, 4, 6, 7, 8, 21] [x0, x1, x2] w R by kernel_rfl) h)

/-- furlong/command.things[furlong/api.Queue]$1: function 113 -/
def C_command_things_api_Queue_1 (x0 : Value) (x1 : Value) (x2 : Value) (w : World) (R : Value → World → Prop) : Prop :=
  LdC (At w) x1 fun t5_1 =>
  CallF Try.prog 100 #[t5_1, (.int .u64 1024), (.int .i64 3)] w fun t6_2 w_3 =>
  ∃ (I_4 : Nat → Value → World → Prop) (m_5 : Nat), I_4 m_5 (.int .u64 0) w_3 ∧
  ∀ m_6, ∀ t7_7, ∀ w_8, I_4 m_6 t7_7 w_8 →
   Bin Try.prog (At w_8) .lss 75 false false t7_7 t6_2 fun t8_9 =>
   If t8_9 (
    LdC (At w_8) x2 fun t9_10 =>
    CallV Try.prog t9_10 #[] w_8 fun t10_11 w_12 =>
    Do Try.prog (Instr.alloc 25 true (.tuple #[])) w_12 fun x_4_13 w_14 =>
    DoU Try.prog (Instr.storeAt 25 x_4_13 t10_11) w_14 fun u_15 w_16 =>
    LdC (At w_16) x1 fun t11_17 =>
    NilC t11_17 fun t12_18 =>
    FAd 2 t12_18 fun t13_19 =>
    LdC (At w_16) t13_19 fun t14_20 =>
    Bin Try.prog (At w_16) .neq 38 false true t14_20 (.int .i64 0) fun t15_21 =>
    GdP (isB t15_21 false) (fun R => R x0) fun t17_22 =>
    GdP (isB t15_21 false) (fun R => LdA (At w_16) 7 x_4_13 R) fun t18_23 =>
    Gd (isB t15_21 false) (fun R => CallV Try.prog t17_22 #[t18_23] w_16 R) w_16 fun t19_24 w_25 =>
    GdP (isB t15_21 false) (fun R => Un Try.prog (At w_25) .not t19_24 R) fun t20_26 =>
    Pick t15_21 (.bool true) t20_26 fun t21_27 =>
    If t21_27 (
     R (.tuple #[]) w_25) (
     Bin Try.prog (At w_25) .add 75 false true t7_7 (.int .u64 1) fun t22_28 =>
     ∃ m_29, m_29 < m_6 ∧
     I_4 m_29 t22_28 w_25)) (
    R (.tuple #[]) w_8)
theorem C_command_things_api_Queue_1_ent : Ent Try.prog 113 := ⟨_, Try.func113, by decide, rfl⟩
theorem C_command_things_api_Queue_1_link {x0 x1 x2 : Value} {w : World} {R : Value → World → Prop} (h : C_command_things_api_Queue_1 x0 x1 x2 w R) : CallF Try.prog 113 #[x0, x1, x2] w R :=
  callF_vFun (L := [0, 1, 2, 4, 6, 7, 8, 21]) (args := [x0, x1, x2]) C_command_things_api_Queue_1_ent Try.func113 rfl (Eq.mp (show (C_command_things_api_Queue_1 x0 x1 x2 w R) = vFun Try.prog Try.f113 [0, 1, 2, 4, 6, 7, 8, 21] [x0, x1, x2] w R by kernel_rfl) h)

/-- furlong/command.things[furlong/api.Node]$1: function 114 -/
def C_command_things_api_Node_1 (x0 : Value) (x1 : Value) (x2 : Value) (w : World) (R : Value → World → Prop) : Prop :=
  LdC (At w) x1 fun t5_1 =>
  CallF Try.prog 100 #[t5_1, (.int .u64 1024), (.int .i64 3)] w fun t6_2 w_3 =>
  ∃ (I_4 : Nat → Value → World → Prop) (m_5 : Nat), I_4 m_5 (.int .u64 0) w_3 ∧
  ∀ m_6, ∀ t7_7, ∀ w_8, I_4 m_6 t7_7 w_8 →
   Bin Try.prog (At w_8) .lss 75 false false t7_7 t6_2 fun t8_9 =>
   If t8_9 (
    LdC (At w_8) x2 fun t9_10 =>
    CallV Try.prog t9_10 #[] w_8 fun t10_11 w_12 =>
    Do Try.prog (Instr.alloc 27 true (.tuple #[])) w_12 fun x_4_13 w_14 =>
    DoU Try.prog (Instr.storeAt 27 x_4_13 t10_11) w_14 fun u_15 w_16 =>
    LdC (At w_16) x1 fun t11_17 =>
    NilC t11_17 fun t12_18 =>
    FAd 2 t12_18 fun t13_19 =>
    LdC (At w_16) t13_19 fun t14_20 =>
    Bin Try.prog (At w_16) .neq 38 false true t14_20 (.int .i64 0) fun t15_21 =>
    GdP (isB t15_21 false) (fun R => R x0) fun t17_22 =>
    GdP (isB t15_21 false) (fun R => LdA (At w_16) 5 x_4_13 R) fun t18_23 =>
    Gd (isB t15_21 false) (fun R => CallV Try.prog t17_22 #[t18_23] w_16 R) w_16 fun t19_24 w_25 =>
    GdP (isB t15_21 false) (fun R => Un Try.prog (At w_25) .not t19_24 R) fun t20_26 =>
    Pick t15_21 (.bool true) t20_26 fun t21_27 =>
    If t21_27 (
     R (.tuple #[]) w_25) (
     Bin Try.prog (At w_25) .add 75 false true t7_7 (.int .u64 1) fun t22_28 =>
     ∃ m_29, m_29 < m_6 ∧
     I_4 m_29 t22_28 w_25)) (
    R (.tuple #[]) w_8)
theorem C_command_things_api_Node_1_ent : Ent Try.prog 114 := ⟨_, Try.func114, by decide, rfl⟩
theorem C_command_things_api_Node_1_link {x0 x1 x2 : Value} {w : World} {R : Value → World → Prop} (h : C_command_things_api_Node_1 x0 x1 x2 w R) : CallF Try.prog 114 #[x0, x1, x2] w R :=
  callF_vFun (L := [0, 1, 2, 4, 6, 7, 8, 21]) (args := [x0, x1, x2]) C_command_things_api_Node_1_ent Try.func114 rfl (Eq.mp (show (C_command_things_api_Node_1 x0 x1 x2 w R) = vFun Try.prog Try.f114 [0, 1, 2, 4, 6, 7, 8, 21] [x0, x1, x2] w R by kernel_rfl) h)

/-- furlong/command.things[furlong/api.Task]$1: function 115 -/
def C_command_things_api_Task_1 (x0 : Value) (x1 : Value) (x2 : Value) (w : World) (R : Value → World → Prop) : Prop :=
  LdC (At w) x1 fun t5_1 =>
  CallF Try.prog 100 #[t5_1, (.int .u64 1024), (.int .i64 3)] w fun t6_2 w_3 =>
  ∃ (I_4 : Nat → Value → World → Prop) (m_5 : Nat), I_4 m_5 (.int .u64 0) w_3 ∧
  ∀ m_6, ∀ t7_7, ∀ w_8, I_4 m_6 t7_7 w_8 →
   Bin Try.prog (At w_8) .lss 75 false false t7_7 t6_2 fun t8_9 =>
   If t8_9 (
    LdC (At w_8) x2 fun t9_10 =>
    CallV Try.prog t9_10 #[] w_8 fun t10_11 w_12 =>
    Do Try.prog (Instr.alloc 30 true (.tuple #[])) w_12 fun x_4_13 w_14 =>
    DoU Try.prog (Instr.storeAt 30 x_4_13 t10_11) w_14 fun u_15 w_16 =>
    LdC (At w_16) x1 fun t11_17 =>
    NilC t11_17 fun t12_18 =>
    FAd 2 t12_18 fun t13_19 =>
    LdC (At w_16) t13_19 fun t14_20 =>
    Bin Try.prog (At w_16) .neq 38 false true t14_20 (.int .i64 0) fun t15_21 =>
    GdP (isB t15_21 false) (fun R => R x0) fun t17_22 =>
    GdP (isB t15_21 false) (fun R => LdA (At w_16) 7 x_4_13 R) fun t18_23 =>
    Gd (isB t15_21 false) (fun R => CallV Try.prog t17_22 #[t18_23] w_16 R) w_16 fun t19_24 w_25 =>
    GdP (isB t15_21 false) (fun R => Un Try.prog (At w_25) .not t19_24 R) fun t20_26 =>
    Pick t15_21 (.bool true) t20_26 fun t21_27 =>
    If t21_27 (
     R (.tuple #[]) w_25) (
     Bin Try.prog (At w_25) .add 75 false true t7_7 (.int .u64 1) fun t22_28 =>
     ∃ m_29, m_29 < m_6 ∧
     I_4 m_29 t22_28 w_25)) (
    R (.tuple #[]) w_8)
theorem C_command_things_api_Task_1_ent : Ent Try.prog 115 := ⟨_, Try.func115, by decide, rfl⟩
theorem C_command_things_api_Task_1_link {x0 x1 x2 : Value} {w : World} {R : Value → World → Prop} (h : C_command_things_api_Task_1 x0 x1 x2 w R) : CallF Try.prog 115 #[x0, x1, x2] w R :=
  callF_vFun (L := [0, 1, 2, 4, 6, 7, 8, 21]) (args := [x0, x1, x2]) C_command_things_api_Task_1_ent Try.func115 rfl (Eq.mp (show (C_command_things_api_Task_1 x0 x1 x2 w R) = vFun Try.prog Try.f115 [0, 1, 2, 4, 6, 7, 8, 21] [x0, x1, x2] w R by kernel_rfl) h)

/-- furlong/command.things[furlong/api.Hunger]$1: function 116 -/
def C_command_things_api_Hunger_1 (x0 : Value) (x1 : Value) (x2 : Value) (w : World) (R : Value → World → Prop) : Prop :=
  LdC (At w) x1 fun t5_1 =>
  CallF Try.prog 100 #[t5_1, (.int .u64 1024), (.int .i64 3)] w fun t6_2 w_3 =>
  ∃ (I_4 : Nat → Value → World → Prop) (m_5 : Nat), I_4 m_5 (.int .u64 0) w_3 ∧
  ∀ m_6, ∀ t7_7, ∀ w_8, I_4 m_6 t7_7 w_8 →
   Bin Try.prog (At w_8) .lss 75 false false t7_7 t6_2 fun t8_9 =>
   If t8_9 (
    LdC (At w_8) x2 fun t9_10 =>
    CallV Try.prog t9_10 #[] w_8 fun t10_11 w_12 =>
    Do Try.prog (Instr.alloc 119 true (.tuple #[])) w_12 fun x_4_13 w_14 =>
    DoU Try.prog (Instr.storeAt 119 x_4_13 t10_11) w_14 fun u_15 w_16 =>
    LdC (At w_16) x1 fun t11_17 =>
    NilC t11_17 fun t12_18 =>
    FAd 2 t12_18 fun t13_19 =>
    LdC (At w_16) t13_19 fun t14_20 =>
    Bin Try.prog (At w_16) .neq 38 false true t14_20 (.int .i64 0) fun t15_21 =>
    GdP (isB t15_21 false) (fun R => R x0) fun t17_22 =>
    GdP (isB t15_21 false) (fun R => LdA (At w_16) 2 x_4_13 R) fun t18_23 =>
    Gd (isB t15_21 false) (fun R => CallV Try.prog t17_22 #[t18_23] w_16 R) w_16 fun t19_24 w_25 =>
    GdP (isB t15_21 false) (fun R => Un Try.prog (At w_25) .not t19_24 R) fun t20_26 =>
    Pick t15_21 (.bool true) t20_26 fun t21_27 =>
    If t21_27 (
     R (.tuple #[]) w_25) (
     Bin Try.prog (At w_25) .add 75 false true t7_7 (.int .u64 1) fun t22_28 =>
     ∃ m_29, m_29 < m_6 ∧
     I_4 m_29 t22_28 w_25)) (
    R (.tuple #[]) w_8)
theorem C_command_things_api_Hunger_1_ent : Ent Try.prog 116 := ⟨_, Try.func116, by decide, rfl⟩
theorem C_command_things_api_Hunger_1_link {x0 x1 x2 : Value} {w : World} {R : Value → World → Prop} (h : C_command_things_api_Hunger_1 x0 x1 x2 w R) : CallF Try.prog 116 #[x0, x1, x2] w R :=
  callF_vFun (L := [0, 1, 2, 4, 6, 7, 8, 21]) (args := [x0, x1, x2]) C_command_things_api_Hunger_1_ent Try.func116 rfl (Eq.mp (show (C_command_things_api_Hunger_1 x0 x1 x2 w R) = vFun Try.prog Try.f116 [0, 1, 2, 4, 6, 7, 8, 21] [x0, x1, x2] w R by kernel_rfl) h)

end Go.Proofs.Ytachignmofpngaa
