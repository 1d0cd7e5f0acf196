/- Conditions for functions of the program to run, as the program that read the translation printed them, each linked to the translation by the kernel. -/
import Derived.Test.YtmlaconjeplhpaaProg
import Derived.Test.YtmlaconjeplhpaaMA
set_option linter.unusedVariables false
set_option maxRecDepth 100000
namespace Go.Proofs.Ytmlaconjeplhpaa
open Go Go.Vc

/-- furlong/furlonglaw16.KeepLasts: function 8 -/
def C_furlonglaw16_KeepLasts (x0 : Value) (x1 : Value) (x2 : Value) (x3 : Value) (w : World) (R : Value → World → Prop) : Prop :=
  CallF Try.prog 33 #[] w fun t21_1 w_2 =>
  Un Try.prog (At w_2) .not t21_1 fun t22_3 =>
  If t22_3 (
   R (.bool false) w_2) (
   Len x0 fun t24_4 =>
   Bin Try.prog (At w_2) .gtr 3 false true t24_4 (.int .i64 60) fun t25_5 =>
   GdP (isB t25_5 false) (fun R => R x2) fun t27_6 =>
   GdP (isB t25_5 false) (fun R => Len t27_6 R) fun t28_7 =>
   GdP (isB t25_5 false) (fun R => Bin Try.prog (At w_2) .gtr 3 false true t28_7 (.int .i64 40) R) fun t29_8 =>
   Pick t25_5 (.bool true) t29_8 fun t30_9 =>
   GdP (isB t30_9 false) (fun R => R x3) fun t32_10 =>
   GdP (isB t30_9 false) (fun R => Bin Try.prog (At w_2) .lss 3 false true t32_10 (.int .i64 0) R) fun t33_11 =>
   Pick t30_9 (.bool true) t33_11 fun t34_12 =>
   If t34_12 (
    R (.bool true) w_2) (
    CallF Try.prog 34 #[] w_2 fun t36_13 w_14 =>
    Ext t36_13 0 fun t37_15 =>
    Ext t36_13 1 fun t38_16 =>
    Do Try.prog (Instr.alloc 60 true (.tuple #[])) w_14 fun x_9_17 w_18 =>
    DoU Try.prog (Instr.storeAt 60 x_9_17 t37_15) w_18 fun u_19 w_20 =>
    Un Try.prog (At w_20) .not t38_16 fun t40_21 =>
    If t40_21 (
     R (.bool false) w_20) (
     Len x0 fun t42_22 =>
     ∃ (I_23 : Nat → Value → Value → Value → World → Prop) (m_24 : Nat), I_23 m_24 (.bool false) (.int .i64 0) (.int .i64 0) w_20 ∧
     ∀ m_25, ∀ t8_26, ∀ term_11_27, ∀ t43_28, ∀ w_29, I_23 m_25 t8_26 term_11_27 t43_28 w_29 →
      Bin Try.prog (At w_29) .lss 3 false false t43_28 t42_22 fun t44_30 =>
      If t44_30 (
       IAdS 1 x0 t43_28 fun t46_31 =>
       LdC (At w_29) t46_31 fun t47_32 =>
       Len t47_32 fun t49_33 =>
       Bin Try.prog (At w_29) .gtr 3 false true t49_33 (.int .i64 3000) fun t50_34 =>
       If t50_34 (
        R (.bool true) w_29) (
        Len x1 fun t53_35 =>
        Bin Try.prog (At w_29) .lss 3 false false t43_28 t53_35 fun t54_36 =>
        GdP (isB t54_36 true) (fun R => R x1) fun t56_37 =>
        GdP (isB t54_36 true) (fun R => R t43_28) fun t57_38 =>
        GdP (isB t54_36 true) (fun R => IAdS 1 t56_37 t57_38 R) fun t58_39 =>
        GdP (isB t54_36 true) (fun R => LdC (At w_29) t58_39 R) fun t59_40 =>
        GdP (isB t54_36 true) (fun R => Bin Try.prog (At w_29) .geq 3 false true t59_40 (.int .i64 0) R) fun t60_41 =>
        Pick t54_36 t60_41 (.bool false) fun t61_42 =>
        GdP (isB t61_42 true) (fun R => R x1) fun t63_43 =>
        GdP (isB t61_42 true) (fun R => R t43_28) fun t64_44 =>
        GdP (isB t61_42 true) (fun R => IAdS 1 t63_43 t64_44 R) fun t65_45 =>
        GdP (isB t61_42 true) (fun R => LdC (At w_29) t65_45 R) fun t66_46 =>
        GdP (isB t61_42 true) (fun R => Bin Try.prog (At w_29) .lss 3 false true t66_46 (.int .i64 1000) R) fun t67_47 =>
        Pick t61_42 t67_47 (.bool false) fun t68_48 =>
        ∃ J_49 : Value → Value → World → Prop,
        (∀ t8_50, ∀ term_11_51, ∀ w_52, J_49 t8_50 term_11_51 w_52 → (
         FAd 1 x_9_17 fun t80_53 =>
         LdC (At w_52) t80_53 fun t81_54 =>
         Bin Try.prog (At w_52) .add 3 false true t43_28 (.int .i64 1) fun t83_55 =>
         CallF Try.prog 36 #[t81_54, t83_55, term_11_51, t47_32] w_52 fun t86_56 w_57 =>
         Bin Try.prog (At w_57) .neq 27 false true t86_56 (.int .i64 0) fun t87_58 =>
         If t87_58 (
          R (.bool false) w_57) (
          Bin Try.prog (At w_57) .add 3 false true t43_28 (.int .i64 1) fun t88_59 =>
          ∃ m_60, m_60 < m_25 ∧
          I_23 m_60 t8_50 term_11_51 t88_59 w_57))) ∧
        If t68_48 (
         Bin Try.prog (At w_29) .add 3 false true term_11_27 (.int .i64 1) fun t70_61 =>
         ∃ S_62 : World → Prop, S_62 (World.drew w_29) ∧
         FAd 1 x_9_17 fun t71_63 =>
         LdC S_62 t71_63 fun t72_64 =>
         IAdS 1 x1 t43_28 fun t76_65 =>
         LdC S_62 t76_65 fun t77_66 =>
         CallF Try.prog 35 #[t72_64, t70_61, t77_66] (World.drew w_29) fun t78_67 w_68 =>
         S_62 w_68 ∧
         Bin Try.prog S_62 .neq 27 false true t78_67 (.int .i64 0) fun t79_69 =>
         If t79_69 (
          R (.bool false) w_68) (
          J_49 t8_26 t70_61 w_68)) (
         J_49 t8_26 term_11_27 w_29))) (
       FAd 1 x_9_17 fun t90_70 =>
       LdC (At w_29) t90_70 fun t91_71 =>
       CallF Try.prog 37 #[t91_71] w_29 fun t92_72 w_73 =>
       Ext t92_72 0 fun t93_74 =>
       Ext t92_72 1 fun t94_75 =>
       Do Try.prog (Instr.alloc 67 true (.tuple #[])) w_73 fun was_14_76 w_77 =>
       DoU Try.prog (Instr.storeAt 67 was_14_76 t93_74) w_77 fun u_78 w_79 =>
       Un Try.prog (At w_79) .not t94_75 fun t96_80 =>
       GdP (isB t96_80 false) (fun R => FAd 1 x_9_17 R) fun t98_81 =>
       GdP (isB t96_80 false) (fun R => LdC (At w_79) t98_81 R) fun t99_82 =>
       Gd (isB t96_80 false) (fun R => CallF Try.prog 38 #[t99_82] w_79 R) w_79 fun t100_83 w_84 =>
       GdP (isB t96_80 false) (fun R => Bin Try.prog (At w_84) .neq 27 false true t100_83 (.int .i64 0) R) fun t101_85 =>
       Pick t96_80 (.bool true) t101_85 fun t102_86 =>
       If t102_86 (
        R (.bool false) w_84) (
        Len x2 fun t104_87 =>
        ∃ (I_88 : Nat → Value → World → Prop) (m_89 : Nat), I_88 m_89 (.int .i64 0) w_84 ∧
        ∀ m_90, ∀ t105_91, ∀ w_92, I_88 m_90 t105_91 w_92 →
         Bin Try.prog (At w_92) .lss 3 false false t105_91 t104_87 fun t106_93 =>
         If t106_93 (
          IAdS 5 x2 t105_91 fun t107_94 =>
          LdA (At w_92) 5 t107_94 fun t108_95 =>
          Do Try.prog (Instr.alloc 71 true (.tuple #[])) w_92 fun o_17_96 w_97 =>
          DoU Try.prog (Instr.storeAt 71 o_17_96 t108_95) w_97 fun u_98 w_99 =>
          FAd 0 o_17_96 fun t109_100 =>
          LdC (At w_99) t109_100 fun t110_101 =>
          Bin Try.prog (At w_99) .eql 3 false true t110_101 (.int .i64 0) fun t111_102 =>
          ∃ J_103 : World → Prop,
          (∀ w_104, J_103 w_104 → (
           Bin Try.prog (At w_104) .add 3 false true t105_91 (.int .i64 1) fun t119_105 =>
           ∃ m_106, m_106 < m_90 ∧
           I_88 m_106 t119_105 w_104)) ∧
          If t111_102 (
           FAd 1 x_9_17 fun t112_107 =>
           LdC (At w_99) t112_107 fun t113_108 =>
           FAd 2 o_17_96 fun t114_109 =>
           LdC (At w_99) t114_109 fun t115_110 =>
           FAd 3 o_17_96 fun t116_111 =>
           LdC (At w_99) t116_111 fun t117_112 =>
           CallF Try.prog 35 #[t113_108, t115_110, t117_112] w_99 fun t118_113 w_114 =>
           J_103 w_114) (
           J_103 w_99)) (
          FAd 0 x_9_17 fun t120_115 =>
          LdC (At w_92) t120_115 fun t121_116 =>
          CallF Try.prog 39 #[t121_116, x3] w_92 fun t123_117 w_118 =>
          Bin Try.prog (At w_118) .neq 27 false true t123_117 (.int .i64 0) fun t124_119 =>
          If t124_119 (
           R (.bool false) w_118) (
           FAd 0 x_9_17 fun t126_120 =>
           LdC (At w_118) t126_120 fun t127_121 =>
           CallF Try.prog 40 #[t127_121] w_118 fun t128_122 w_123 =>
           Ext t128_122 0 fun t129_124 =>
           Ext t128_122 1 fun t130_125 =>
           Bin Try.prog (At w_123) .neq 27 false true t130_125 (.int .i64 0) fun t132_126 =>
           If t132_126 (
            R (.bool false) w_123) (
            CallF Try.prog 37 #[t129_124] w_123 fun t135_127 w_128 =>
            Ext t135_127 0 fun t136_129 =>
            Ext t135_127 1 fun t137_130 =>
            Do Try.prog (Instr.alloc 67 true (.tuple #[])) w_128 fun m_20_131 w_132 =>
            DoU Try.prog (Instr.storeAt 67 m_20_131 t136_129) w_132 fun u_133 w_134 =>
            Un Try.prog (At w_134) .not t137_130 fun t139_135 =>
            GdP (isB t139_135 false) (fun R => FAd 0 m_20_131 R) fun t141_136 =>
            GdP (isB t139_135 false) (fun R => LdC (At w_134) t141_136 R) fun t142_137 =>
            GdP (isB t139_135 false) (fun R => FAd 0 was_14_76 R) fun t143_138 =>
            GdP (isB t139_135 false) (fun R => LdC (At w_134) t143_138 R) fun t144_139 =>
            GdP (isB t139_135 false) (fun R => Bin Try.prog (At w_134) .lss 3 false false t142_137 t144_139 R) fun t145_140 =>
            Pick t139_135 (.bool true) t145_140 fun t146_141 =>
            If t146_141 (
             R (.bool false) w_134) (
             ∃ S_142 : World → Prop, S_142 (World.drew w_134) ∧
             FAd 0 was_14_76 fun t147_143 =>
             LdC S_142 t147_143 fun t148_144 =>
             FAd 1 was_14_76 fun t149_145 =>
             LdC S_142 t149_145 fun t150_146 =>
             FAd 0 m_20_131 fun t151_147 =>
             DoU Try.prog (Instr.storeAt 3 t151_147 t148_144) (World.drew w_134) fun u_148 w_149 =>
             S_142 w_149 ∧
             FAd 1 m_20_131 fun t152_150 =>
             DoU Try.prog (Instr.storeAt 3 t152_150 t150_146) w_149 fun u_151 w_152 =>
             LdA (At w_152) 6 m_20_131 fun t153_153 =>
             LdA (At w_152) 6 was_14_76 fun t154_154 =>
             CallF Try.prog 41 #[t153_153, t154_154] w_152 fun t155_155 w_156 =>
             R t155_155 w_156)))))))))
theorem C_furlonglaw16_KeepLasts_ent : Ent Try.prog 8 := ⟨_, Try.func8, by decide, rfl⟩
theorem C_furlonglaw16_KeepLasts_eq {x0 x1 x2 x3 : Value} {w : World} {R : Value → World → Prop} : (C_furlonglaw16_KeepLasts x0 x1 x2 x3 w R) = vFun Try.prog Try.f8 [0, 1, 2, 3, 8, 9, 10, 11, 12, 13, 14, 15, 17, 18, 19, 20, 22, 34, 40, 41, 42, 43, 44, 50, 68, 79, 87, 102, 103, 104, 105, 106, 111, 124, 132, 146] [x0, x1, x2, x3] w R := by kernel_rfl
theorem C_furlonglaw16_KeepLasts_link {x0 x1 x2 x3 : Value} {w : World} {R : Value → World → Prop} (h : C_furlonglaw16_KeepLasts x0 x1 x2 x3 w R) : CallF Try.prog 8 #[x0, x1, x2, x3] w R :=
  callF_eq (fn := Try.f8) (L := [0, 1, 2, 3, 8, 9, 10, 11, 12, 13, 14, 15, 17, 18, 19, 20, 22, 34, 40, 41, 42, 43, 44, 50, 68, 79, 87, 102, 103, 104, 105, 106, 111, 124, 132, 146]) (args := [x0, x1, x2, x3]) C_furlonglaw16_KeepLasts_ent Try.func8 (by kernel_rfl) C_furlonglaw16_KeepLasts_eq h

/-- furlong/furlonglaw16.KeepHolds: function 9 -/
def C_furlonglaw16_KeepHolds (x0 : Value) (w : World) (R : Value → World → Prop) : Prop :=
  CallF Try.prog 33 #[] w fun t8_1 w_2 =>
  Un Try.prog (At w_2) .not t8_1 fun t9_3 =>
  If t9_3 (
   R (.bool false) w_2) (
   CallF Try.prog 34 #[] w_2 fun t11_4 w_5 =>
   Ext t11_4 0 fun t12_6 =>
   Ext t11_4 1 fun t13_7 =>
   Do Try.prog (Instr.alloc 60 true (.tuple #[])) w_5 fun x_3_8 w_9 =>
   DoU Try.prog (Instr.storeAt 60 x_3_8 t12_6) w_9 fun u_10 w_11 =>
   Un Try.prog (At w_11) .not t13_7 fun t15_12 =>
   If t15_12 (
    R (.bool false) w_11) (
    Len x0 fun t17_13 =>
    ∃ J_14 : Value → Value → Value → World → Prop,
    (∀ t2_15, ∀ sum_5_16, ∀ t18_17, ∀ w_18, J_14 t2_15 sum_5_16 t18_17 w_18 → (
     CallF Try.prog 43 #[x_3_8, (.int .i64 0)] w_18 fun t39_19 w_20 =>
     Gd (isB t39_19 true) (fun R => CallF Try.prog 43 #[x_3_8, (.int .i64 3)] w_20 R) w_20 fun t41_21 w_22 =>
     Pick t39_19 t41_21 (.bool false) fun t42_23 =>
     R t42_23 w_22)) ∧
    ∃ (I_24 : Nat → Value → Value → Value → World → Prop) (m_25 : Nat), I_24 m_25 (.bool false) (.int .i64 0) (.int .i64 0) w_11 ∧
    ∀ m_26, ∀ t2_27, ∀ sum_5_28, ∀ t18_29, ∀ w_30, I_24 m_26 t2_27 sum_5_28 t18_29 w_30 →
     Bin Try.prog (At w_30) .lss 3 false false t18_29 t17_13 fun t19_31 =>
     If t19_31 (
      IAdS 5 x0 t18_29 fun t21_32 =>
      LdA (At w_30) 5 t21_32 fun t22_33 =>
      Do Try.prog (Instr.alloc 71 true (.tuple #[])) w_30 fun o_7_34 w_35 =>
      DoU Try.prog (Instr.storeAt 71 o_7_34 t22_33) w_35 fun u_36 w_37 =>
      FAd 4 o_7_34 fun t24_38 =>
      LdC (At w_37) t24_38 fun t25_39 =>
      Len t25_39 fun t26_40 =>
      Pu Try.prog (At w_37) (Builtin.min_ #[3, 3] 3 #[t26_40, (.int .i64 300000)]) fun t27_41 =>
      Bin Try.prog (At w_37) .add 3 false false sum_5_28 t27_41 fun t28_42 =>
      Bin Try.prog (At w_37) .geq 3 false true t18_29 (.int .i64 120) fun t30_43 =>
      GdP (isB t30_43 false) (fun R => R t28_42) fun t32_44 =>
      GdP (isB t30_43 false) (fun R => Bin Try.prog (At w_37) .gtr 3 false true t32_44 (.int .i64 290000) R) fun t33_45 =>
      Pick t30_43 (.bool true) t33_45 fun t34_46 =>
      If t34_46 (
       J_14 t2_27 t28_42 t18_29 w_37) (
       LdA (At w_37) 5 o_7_34 fun t35_47 =>
       CallF Try.prog 42 #[x_3_8, t35_47] w_37 fun t36_48 w_49 =>
       Un Try.prog (At w_49) .not t36_48 fun t37_50 =>
       If t37_50 (
        R (.bool false) w_49) (
        Bin Try.prog (At w_49) .add 3 false true t18_29 (.int .i64 1) fun t38_51 =>
        ∃ m_52, m_52 < m_26 ∧
        I_24 m_52 t2_27 t28_42 t38_51 w_49))) (
      J_14 t2_27 sum_5_28 t18_29 w_30)))
theorem C_furlonglaw16_KeepHolds_ent : Ent Try.prog 9 := ⟨_, Try.func9, by decide, rfl⟩
theorem C_furlonglaw16_KeepHolds_eq {x0 : Value} {w : World} {R : Value → World → Prop} : (C_furlonglaw16_KeepHolds x0 w R) = vFun Try.prog Try.f9 [0, 2, 3, 4, 5, 6, 7, 9, 15, 16, 17, 18, 19, 34, 37] [x0] w R := by kernel_rfl
theorem C_furlonglaw16_KeepHolds_link {x0 : Value} {w : World} {R : Value → World → Prop} (h : C_furlonglaw16_KeepHolds x0 w R) : CallF Try.prog 9 #[x0] w R :=
  callF_eq (fn := Try.f9) (L := [0, 2, 3, 4, 5, 6, 7, 9, 15, 16, 17, 18, 19, 34, 37]) (args := [x0]) C_furlonglaw16_KeepHolds_ent Try.func9 (by kernel_rfl) C_furlonglaw16_KeepHolds_eq h

/-- furlong/furlonglaw16.KeepCuts: function 10 -/
def C_furlonglaw16_KeepCuts (x0 : Value) (x1 : Value) (x2 : Value) (x3 : Value) (w : World) (R : Value → World → Prop) : Prop :=
  CallF Try.prog 33 #[] w fun t17_1 w_2 =>
  Un Try.prog (At w_2) .not t17_1 fun t18_3 =>
  If t18_3 (
   R (.bool false) w_2) (
   Len x0 fun t20_4 =>
   Bin Try.prog (At w_2) .lss 3 false true t20_4 (.int .i64 1) fun t21_5 =>
   GdP (isB t21_5 false) (fun R => R x0) fun t23_6 =>
   GdP (isB t21_5 false) (fun R => Len t23_6 R) fun t24_7 =>
   GdP (isB t21_5 false) (fun R => Bin Try.prog (At w_2) .gtr 3 false true t24_7 (.int .i64 40) R) fun t25_8 =>
   Pick t21_5 (.bool true) t25_8 fun t26_9 =>
   GdP (isB t26_9 false) (fun R => R x1) fun t28_10 =>
   GdP (isB t26_9 false) (fun R => Bin Try.prog (At w_2) .lss 3 false true t28_10 (.int .i64 1) R) fun t29_11 =>
   Pick t26_9 (.bool true) t29_11 fun t30_12 =>
   GdP (isB t30_12 false) (fun R => R x1) fun t32_13 =>
   GdP (isB t30_12 false) (fun R => R x0) fun t33_14 =>
   GdP (isB t30_12 false) (fun R => Len t33_14 R) fun t34_15 =>
   GdP (isB t30_12 false) (fun R => Bin Try.prog (At w_2) .gtr 3 false false t32_13 t34_15 R) fun t35_16 =>
   Pick t30_12 (.bool true) t35_16 fun t36_17 =>
   GdP (isB t36_17 false) (fun R => R x2) fun t38_18 =>
   GdP (isB t36_17 false) (fun R => Bin Try.prog (At w_2) .lss 3 false true t38_18 (.int .i64 1) R) fun t39_19 =>
   Pick t36_17 (.bool true) t39_19 fun t40_20 =>
   GdP (isB t40_20 false) (fun R => R x2) fun t42_21 =>
   GdP (isB t40_20 false) (fun R => R x1) fun t43_22 =>
   GdP (isB t40_20 false) (fun R => Bin Try.prog (At w_2) .gtr 3 false false t42_21 t43_22 R) fun t44_23 =>
   Pick t40_20 (.bool true) t44_23 fun t45_24 =>
   GdP (isB t45_24 false) (fun R => R x3) fun t47_25 =>
   GdP (isB t45_24 false) (fun R => Bin Try.prog (At w_2) .lss 3 false true t47_25 (.int .i64 0) R) fun t48_26 =>
   Pick t45_24 (.bool true) t48_26 fun t49_27 =>
   If t49_27 (
    R (.bool true) w_2) (
    CallF Try.prog 34 #[] w_2 fun t51_28 w_29 =>
    Ext t51_28 0 fun t52_30 =>
    Ext t51_28 1 fun t53_31 =>
    Do Try.prog (Instr.alloc 60 true (.tuple #[])) w_29 fun x_9_32 w_33 =>
    DoU Try.prog (Instr.storeAt 60 x_9_32 t52_30) w_33 fun u_34 w_35 =>
    Un Try.prog (At w_35) .not t53_31 fun t55_36 =>
    If t55_36 (
     R (.bool false) w_35) (
     Len x0 fun t57_37 =>
     ∃ (I_38 : Nat → Value → Value → World → Prop) (m_39 : Nat), I_38 m_39 (.bool false) (.int .i64 0) w_35 ∧
     ∀ m_40, ∀ t8_41, ∀ t58_42, ∀ w_43, I_38 m_40 t8_41 t58_42 w_43 →
      Bin Try.prog (At w_43) .lss 3 false false t58_42 t57_37 fun t59_44 =>
      If t59_44 (
       IAdS 1 x0 t58_42 fun t61_45 =>
       LdC (At w_43) t61_45 fun t62_46 =>
       Len t62_46 fun t64_47 =>
       Bin Try.prog (At w_43) .gtr 3 false true t64_47 (.int .i64 2000) fun t65_48 =>
       If t65_48 (
        R (.bool true) w_43) (
        FAd 1 x_9_32 fun t66_49 =>
        LdC (At w_43) t66_49 fun t67_50 =>
        Bin Try.prog (At w_43) .add 3 false true t58_42 (.int .i64 1) fun t69_51 =>
        CallF Try.prog 36 #[t67_50, t69_51, (.int .i64 3), t62_46] w_43 fun t71_52 w_53 =>
        Bin Try.prog (At w_53) .neq 27 false true t71_52 (.int .i64 0) fun t72_54 =>
        If t72_54 (
         R (.bool false) w_53) (
         Bin Try.prog (At w_53) .add 3 false true t58_42 (.int .i64 1) fun t73_55 =>
         ∃ m_56, m_56 < m_40 ∧
         I_38 m_56 t8_41 t73_55 w_53))) (
       FAd 1 x_9_32 fun t74_57 =>
       LdC (At w_43) t74_57 fun t75_58 =>
       Do Try.prog (Instr.buildSlice 24 1 #[(0, (.int .u8 9))]) w_43 fun t77_59 w_60 =>
       CallF Try.prog 36 #[t75_58, x1, (.int .i64 5), t77_59] w_60 fun t78_61 w_62 =>
       Bin Try.prog (At w_62) .neq 27 false true t78_61 (.int .i64 0) fun t79_63 =>
       GdP (isB t79_63 false) (fun R => FAd 1 x_9_32 R) fun t81_64 =>
       GdP (isB t79_63 false) (fun R => LdC (At w_62) t81_64 R) fun t82_65 =>
       Gd (isB t79_63 false) (fun R => CallF Try.prog 44 #[t82_65] w_62 R) w_62 fun t83_66 w_67 =>
       GdP (isB t79_63 false) (fun R => R x1) fun t84_68 =>
       GdP (isB t79_63 false) (fun R => Bin Try.prog (At w_67) .neq 3 false false t83_66 t84_68 R) fun t85_69 =>
       Pick t79_63 (.bool true) t85_69 fun t86_70 =>
       If t86_70 (
        R (.bool false) w_67) (
        Bin Try.prog (At w_67) .eql 3 false false x2 x1 fun t89_71 =>
        ∃ J_72 : Value → World → Prop,
        (∀ mine_13_73, ∀ w_74, J_72 mine_13_73 w_74 → (
         FAd 1 x_9_32 fun t90_75 =>
         LdC (At w_74) t90_75 fun t91_76 =>
         Do Try.prog (Instr.buildSlice 24 1 #[(0, (.int .u8 8))]) w_74 fun t94_77 w_78 =>
         CallF Try.prog 45 #[t91_76, x2, x3, t94_77] w_78 fun t95_79 w_80 =>
         Bin Try.prog (At w_80) .neq 27 false true t95_79 (.int .i64 0) fun t96_81 =>
         If t96_81 (
          R (.bool false) w_80) (
          FAd 1 x_9_32 fun t98_82 =>
          LdC (At w_80) t98_82 fun t99_83 =>
          CallF Try.prog 37 #[t99_83] w_80 fun t100_84 w_85 =>
          Ext t100_84 0 fun t101_86 =>
          Ext t100_84 1 fun t102_87 =>
          Do Try.prog (Instr.alloc 67 true (.tuple #[])) w_85 fun m_14_88 w_89 =>
          DoU Try.prog (Instr.storeAt 67 m_14_88 t101_86) w_89 fun u_90 w_91 =>
          Bin Try.prog (At w_91) .sub 3 false false x1 x2 fun t105_92 =>
          Bin Try.prog (At w_91) .neq 3 false false x3 mine_13_73 fun t108_93 =>
          ∃ J_94 : Value → World → Prop,
          (∀ want_16_95, ∀ w_96, J_94 want_16_95 w_96 → (
           Un Try.prog (At w_96) .not t102_87 fun t110_97 =>
           GdP (isB t110_97 false) (fun R => FAd 2 m_14_88 R) fun t112_98 =>
           GdP (isB t110_97 false) (fun R => LdC (At w_96) t112_98 R) fun t113_99 =>
           GdP (isB t110_97 false) (fun R => R x2) fun t114_100 =>
           GdP (isB t110_97 false) (fun R => Bin Try.prog (At w_96) .neq 3 false false t113_99 t114_100 R) fun t115_101 =>
           Pick t110_97 (.bool true) t115_101 fun t116_102 =>
           GdP (isB t116_102 false) (fun R => FAd 3 m_14_88 R) fun t118_103 =>
           GdP (isB t116_102 false) (fun R => LdC (At w_96) t118_103 R) fun t119_104 =>
           GdP (isB t116_102 false) (fun R => R x3) fun t120_105 =>
           GdP (isB t116_102 false) (fun R => Bin Try.prog (At w_96) .neq 3 false false t119_104 t120_105 R) fun t121_106 =>
           Pick t116_102 (.bool true) t121_106 fun t122_107 =>
           GdP (isB t122_107 false) (fun R => FAd 5 m_14_88 R) fun t124_108 =>
           GdP (isB t122_107 false) (fun R => LdC (At w_96) t124_108 R) fun t125_109 =>
           GdP (isB t122_107 false) (fun R => Len t125_109 R) fun t126_110 =>
           GdP (isB t122_107 false) (fun R => R want_16_95) fun t127_111 =>
           GdP (isB t122_107 false) (fun R => Bin Try.prog (At w_96) .neq 3 false false t126_110 t127_111 R) fun t128_112 =>
           Pick t122_107 (.bool true) t128_112 fun t129_113 =>
           If t129_113 (
            R (.bool false) w_96) (
            Bin Try.prog (At w_96) .eql 3 false true want_16_95 (.int .i64 0) fun t131_114 =>
            GdP (isB t131_114 false) (fun R => FAd 5 m_14_88 R) fun t133_115 =>
            GdP (isB t131_114 false) (fun R => LdC (At w_96) t133_115 R) fun t134_116 =>
            GdP (isB t131_114 false) (fun R => R want_16_95) fun t135_117 =>
            GdP (isB t131_114 false) (fun R => Bin Try.prog (At w_96) .sub 3 false true t135_117 (.int .i64 1) R) fun t136_118 =>
            GdP (isB t131_114 false) (fun R => IAdS 2 t134_116 t136_118 R) fun t137_119 =>
            GdP (isB t131_114 false) (fun R => FAd 0 t137_119 R) fun t138_120 =>
            GdP (isB t131_114 false) (fun R => LdC (At w_96) t138_120 R) fun t139_121 =>
            GdP (isB t131_114 false) (fun R => Bin Try.prog (At w_96) .eql 3 false true t139_121 (.int .i64 5) R) fun t140_122 =>
            GdP (isB t131_114 false) (fun R => R t140_122) fun t141_123 =>
            GdP (isB t141_123 true) (fun R => FAd 5 m_14_88 R) fun t142_124 =>
            GdP (isB t141_123 true) (fun R => LdC (At w_96) t142_124 R) fun t143_125 =>
            GdP (isB t141_123 true) (fun R => R want_16_95) fun t144_126 =>
            GdP (isB t141_123 true) (fun R => Bin Try.prog (At w_96) .sub 3 false true t144_126 (.int .i64 1) R) fun t145_127 =>
            GdP (isB t141_123 true) (fun R => IAdS 2 t143_125 t145_127 R) fun t146_128 =>
            GdP (isB t141_123 true) (fun R => FAd 1 t146_128 R) fun t147_129 =>
            GdP (isB t141_123 true) (fun R => LdC (At w_96) t147_129 R) fun t148_130 =>
            Gd (isB t141_123 true) (fun R => Do Try.prog (Instr.buildSlice 24 1 #[(0, (.int .u8 9))]) w_96 R) w_96 fun t149_131 w_132 =>
            Gd (isB t141_123 true) (fun R => CallF Try.prog 25 #[t148_130, t149_131] w_132 R) w_132 fun t150_133 w_134 =>
            GdP (isB t131_114 false) (fun R => Pick t141_123 t150_133 (.bool false) R) fun t151_135 =>
            Pick t131_114 (.bool true) t151_135 fun t152_136 =>
            R t152_136 w_134))) ∧
          If t108_93 (
           J_94 (.int .i64 0) w_91) (
           J_94 t105_92 w_91)))) ∧
        If t89_71 (
         J_72 (.int .i64 5) w_67) (
         J_72 (.int .i64 3) w_67))))))
theorem C_furlonglaw16_KeepCuts_ent : Ent Try.prog 10 := ⟨_, Try.func10, by decide, rfl⟩
theorem C_furlonglaw16_KeepCuts_eq {x0 x1 x2 x3 : Value} {w : World} {R : Value → World → Prop} : (C_furlonglaw16_KeepCuts x0 x1 x2 x3 w R) = vFun Try.prog Try.f10 [0, 1, 2, 3, 8, 9, 10, 11, 12, 13, 14, 15, 16, 18, 49, 55, 56, 57, 58, 59, 65, 72, 86, 89, 96, 108, 129] [x0, x1, x2, x3] w R := by kernel_rfl
theorem C_furlonglaw16_KeepCuts_link {x0 x1 x2 x3 : Value} {w : World} {R : Value → World → Prop} (h : C_furlonglaw16_KeepCuts x0 x1 x2 x3 w R) : CallF Try.prog 10 #[x0, x1, x2, x3] w R :=
  callF_eq (fn := Try.f10) (L := [0, 1, 2, 3, 8, 9, 10, 11, 12, 13, 14, 15, 16, 18, 49, 55, 56, 57, 58, 59, 65, 72, 86, 89, 96, 108, 129]) (args := [x0, x1, x2, x3]) C_furlonglaw16_KeepCuts_ent Try.func10 (by kernel_rfl) C_furlonglaw16_KeepCuts_eq h

/-- furlong/furlonglaw16.KeepNil: function 11 -/
def C_furlonglaw16_KeepNil (x0 : Value) (x1 : Value) (x2 : Value) (w : World) (R : Value → World → Prop) : Prop :=
  CallF Try.prog 33 #[] w fun t34_1 w_2 =>
  Un Try.prog (At w_2) .not t34_1 fun t35_3 =>
  If t35_3 (
   R (.bool false) w_2) (
   CallF Try.prog 40 #[(.pointer none)] w_2 fun t37_4 w_5 =>
   Ext t37_4 0 fun t38_6 =>
   Ext t37_4 1 fun t39_7 =>
   CallF Try.prog 46 #[(.pointer none)] w_5 fun t42_8 w_9 =>
   Ext t42_8 0 fun t43_10 =>
   Ext t42_8 1 fun t44_11 =>
   Ext t42_8 2 fun t45_12 =>
   CallF Try.prog 47 #[(.pointer none), x0] w_9 fun t49_13 w_14 =>
   Ext t49_13 0 fun t50_15 =>
   Ext t49_13 1 fun t51_16 =>
   Ext t49_13 2 fun t52_17 =>
   Bin Try.prog (At w_14) .neq 57 false true t38_6 (.pointer none) fun t54_18 =>
   GdP (isB t54_18 false) (fun R => R t39_7) fun t56_19 =>
   GdP (isB t54_18 false) (fun R => Bin Try.prog (At w_14) .neq 27 false true t56_19 (.int .i64 17) R) fun t57_20 =>
   Pick t54_18 (.bool true) t57_20 fun t58_21 =>
   GdP (isB t58_21 false) (fun R => R (.pointer none)) fun t60_22 =>
   GdP (isB t58_21 false) (fun R => R x1) fun t61_23 =>
   Gd (isB t58_21 false) (fun R => CallF Try.prog 35 #[t60_22, t61_23, (.int .i64 0)] w_14 R) w_14 fun t62_24 w_25 =>
   GdP (isB t58_21 false) (fun R => Bin Try.prog (At w_25) .neq 27 false true t62_24 (.int .i64 17) R) fun t63_26 =>
   Pick t58_21 (.bool true) t63_26 fun t64_27 =>
   GdP (isB t64_27 false) (fun R => R (.pointer none)) fun t66_28 =>
   GdP (isB t64_27 false) (fun R => R x0) fun t67_29 =>
   GdP (isB t64_27 false) (fun R => R x1) fun t68_30 =>
   GdP (isB t64_27 false) (fun R => R x2) fun t69_31 =>
   Gd (isB t64_27 false) (fun R => CallF Try.prog 36 #[t66_28, t67_29, t68_30, t69_31] w_25 R) w_25 fun t70_32 w_33 =>
   GdP (isB t64_27 false) (fun R => Bin Try.prog (At w_33) .neq 27 false true t70_32 (.int .i64 17) R) fun t71_34 =>
   Pick t64_27 (.bool true) t71_34 fun t72_35 =>
   GdP (isB t72_35 false) (fun R => R (.pointer none)) fun t74_36 =>
   GdP (isB t72_35 false) (fun R => R x0) fun t75_37 =>
   GdP (isB t72_35 false) (fun R => R x1) fun t76_38 =>
   GdP (isB t72_35 false) (fun R => R x2) fun t77_39 =>
   Gd (isB t72_35 false) (fun R => CallF Try.prog 45 #[t74_36, t75_37, t76_38, t77_39] w_33 R) w_33 fun t78_40 w_41 =>
   GdP (isB t72_35 false) (fun R => Bin Try.prog (At w_41) .neq 27 false true t78_40 (.int .i64 17) R) fun t79_42 =>
   Pick t72_35 (.bool true) t79_42 fun t80_43 =>
   GdP (isB t80_43 false) (fun R => R (.pointer none)) fun t82_44 =>
   Gd (isB t80_43 false) (fun R => CallF Try.prog 38 #[t82_44] w_41 R) w_41 fun t83_45 w_46 =>
   GdP (isB t80_43 false) (fun R => Bin Try.prog (At w_46) .neq 27 false true t83_45 (.int .i64 17) R) fun t84_47 =>
   Pick t80_43 (.bool true) t84_47 fun t85_48 =>
   GdP (isB t85_48 false) (fun R => R (.pointer none)) fun t87_49 =>
   Gd (isB t85_48 false) (fun R => CallF Try.prog 48 #[t87_49] w_46 R) w_46 fun t88_50 w_51 =>
   GdP (isB t85_48 false) (fun R => R (.pointer none)) fun t89_52 =>
   Gd (isB t85_48 false) (fun R => CallF Try.prog 49 #[t89_52] w_51 R) w_51 fun t90_53 w_54 =>
   GdP (isB t85_48 false) (fun R => Bin Try.prog (At w_54) .add 3 false false t88_50 t90_53 R) fun t91_55 =>
   GdP (isB t85_48 false) (fun R => R (.pointer none)) fun t92_56 =>
   Gd (isB t85_48 false) (fun R => CallF Try.prog 44 #[t92_56] w_54 R) w_54 fun t93_57 w_58 =>
   GdP (isB t85_48 false) (fun R => Bin Try.prog (At w_58) .add 3 false false t91_55 t93_57 R) fun t94_59 =>
   GdP (isB t85_48 false) (fun R => R t43_10) fun t95_60 =>
   GdP (isB t85_48 false) (fun R => Bin Try.prog (At w_58) .add 3 false false t94_59 t95_60 R) fun t96_61 =>
   GdP (isB t85_48 false) (fun R => R t44_11) fun t97_62 =>
   GdP (isB t85_48 false) (fun R => Bin Try.prog (At w_58) .add 3 false false t96_61 t97_62 R) fun t98_63 =>
   GdP (isB t85_48 false) (fun R => R t45_12) fun t99_64 =>
   GdP (isB t85_48 false) (fun R => Len t99_64 R) fun t100_65 =>
   GdP (isB t85_48 false) (fun R => Bin Try.prog (At w_58) .add 3 false false t98_63 t100_65 R) fun t101_66 =>
   GdP (isB t85_48 false) (fun R => R t50_15) fun t102_67 =>
   GdP (isB t85_48 false) (fun R => Bin Try.prog (At w_58) .add 3 false false t101_66 t102_67 R) fun t103_68 =>
   GdP (isB t85_48 false) (fun R => R t51_16) fun t104_69 =>
   GdP (isB t85_48 false) (fun R => Len t104_69 R) fun t105_70 =>
   GdP (isB t85_48 false) (fun R => Bin Try.prog (At w_58) .add 3 false false t103_68 t105_70 R) fun t106_71 =>
   GdP (isB t85_48 false) (fun R => Bin Try.prog (At w_58) .neq 3 false true t106_71 (.int .i64 0) R) fun t107_72 =>
   Pick t85_48 (.bool true) t107_72 fun t108_73 =>
   GdP (isB t108_73 false) (fun R => R t52_17) fun t110_74 =>
   GdP (isB t108_73 false) (fun R => Bin Try.prog (At w_58) .neq 27 false true t110_74 (.int .i64 17) R) fun t111_75 =>
   Pick t108_73 (.bool true) t111_75 fun t112_76 =>
   If t112_76 (
    R (.bool false) w_58) (
    Len x2 fun t114_77 =>
    Bin Try.prog (At w_58) .gtr 3 false true t114_77 (.int .i64 1000) fun t115_78 =>
    If t115_78 (
     R (.bool true) w_58) (
     CallF Try.prog 34 #[] w_58 fun t117_79 w_80 =>
     Ext t117_79 0 fun t118_81 =>
     Ext t117_79 1 fun t119_82 =>
     Do Try.prog (Instr.alloc 60 true (.tuple #[])) w_80 fun x_16_83 w_84 =>
     DoU Try.prog (Instr.storeAt 60 x_16_83 t118_81) w_84 fun u_85 w_86 =>
     CallF Try.prog 24 #[x2] w_86 fun t121_87 w_88 =>
     Un Try.prog (At w_88) .not t119_82 fun t123_89 =>
     GdP (isB t123_89 false) (fun R => FAd 1 x_16_83 R) fun t125_90 =>
     GdP (isB t123_89 false) (fun R => LdC (At w_88) t125_90 R) fun t126_91 =>
     GdP (isB t123_89 false) (fun R => R t121_87) fun t127_92 =>
     Gd (isB t123_89 false) (fun R => CallF Try.prog 36 #[t126_91, (.int .i64 1), (.int .i64 0), t127_92] w_88 R) w_88 fun t128_93 w_94 =>
     GdP (isB t123_89 false) (fun R => Bin Try.prog (At w_94) .neq 27 false true t128_93 (.int .i64 0) R) fun t129_95 =>
     Pick t123_89 (.bool true) t129_95 fun t130_96 =>
     GdP (isB t130_96 false) (fun R => FAd 1 x_16_83 R) fun t132_97 =>
     GdP (isB t130_96 false) (fun R => LdC (At w_94) t132_97 R) fun t133_98 =>
     GdP (isB t130_96 false) (fun R => R t121_87) fun t134_99 =>
     Gd (isB t130_96 false) (fun R => CallF Try.prog 36 #[t133_98, (.int .i64 2), (.int .i64 0), t134_99] w_94 R) w_94 fun t135_100 w_101 =>
     GdP (isB t130_96 false) (fun R => Bin Try.prog (At w_101) .neq 27 false true t135_100 (.int .i64 0) R) fun t136_102 =>
     Pick t130_96 (.bool true) t136_102 fun t137_103 =>
     GdP (isB t137_103 false) (fun R => FAd 1 x_16_83 R) fun t139_104 =>
     GdP (isB t137_103 false) (fun R => LdC (At w_101) t139_104 R) fun t140_105 =>
     GdP (isB t137_103 false) (fun R => R t121_87) fun t141_106 =>
     Gd (isB t137_103 false) (fun R => CallF Try.prog 45 #[t140_105, (.int .i64 1), (.int .i64 0), t141_106] w_101 R) w_101 fun t142_107 w_108 =>
     GdP (isB t137_103 false) (fun R => Bin Try.prog (At w_108) .neq 27 false true t142_107 (.int .i64 0) R) fun t143_109 =>
     Pick t137_103 (.bool true) t143_109 fun t144_110 =>
     If t144_110 (
      R (.bool false) w_108) (
      Len t121_87 fun t146_111 =>
      ∃ (I_112 : Nat → Value → World → Prop) (m_113 : Nat), I_112 m_113 (.int .i64 0) w_108 ∧
      ∀ m_114, ∀ t147_115, ∀ w_116, I_112 m_114 t147_115 w_116 →
       Bin Try.prog (At w_116) .lss 3 false false t147_115 t146_111 fun t148_117 =>
       If t148_117 (
        IAdS 1 t121_87 t147_115 fun t152_118 =>
        LdC (At w_116) t152_118 fun t153_119 =>
        Bin Try.prog (At w_116) .xor 5 false true t153_119 (.int .u8 255) fun t154_120 =>
        IAdS 1 t121_87 t147_115 fun t155_121 =>
        DoU Try.prog (Instr.storeAt 5 t155_121 t154_120) w_116 fun u_122 w_123 =>
        Bin Try.prog (At w_123) .add 3 false true t147_115 (.int .i64 1) fun t156_124 =>
        ∃ m_125, m_125 < m_114 ∧
        I_112 m_125 t156_124 w_123) (
        FAd 1 x_16_83 fun t158_126 =>
        LdC (At w_116) t158_126 fun t159_127 =>
        CallF Try.prog 47 #[t159_127, (.int .i64 2)] w_116 fun t160_128 w_129 =>
        Ext t160_128 0 fun t161_130 =>
        Ext t160_128 1 fun t162_131 =>
        Ext t160_128 2 fun t163_132 =>
        FAd 1 x_16_83 fun t165_133 =>
        LdC (At w_129) t165_133 fun t166_134 =>
        CallF Try.prog 46 #[t166_134] w_129 fun t167_135 w_136 =>
        Ext t167_135 0 fun t168_137 =>
        Ext t167_135 1 fun t169_138 =>
        Ext t167_135 2 fun t170_139 =>
        Len t162_131 fun t172_140 =>
        ∃ (I_141 : Nat → Value → World → Prop) (m_142 : Nat), I_141 m_142 (.int .i64 0) w_136 ∧
        ∀ m_143, ∀ t173_144, ∀ w_145, I_141 m_143 t173_144 w_145 →
         Bin Try.prog (At w_145) .lss 3 false false t173_144 t172_140 fun t174_146 =>
         If t174_146 (
          IAdS 1 t162_131 t173_144 fun t178_147 =>
          LdC (At w_145) t178_147 fun t179_148 =>
          Bin Try.prog (At w_145) .xor 5 false true t179_148 (.int .u8 3) fun t180_149 =>
          IAdS 1 t162_131 t173_144 fun t181_150 =>
          DoU Try.prog (Instr.storeAt 5 t181_150 t180_149) w_145 fun u_151 w_152 =>
          Bin Try.prog (At w_152) .add 3 false true t173_144 (.int .i64 1) fun t182_153 =>
          ∃ m_154, m_154 < m_143 ∧
          I_141 m_154 t182_153 w_152) (
          Len t170_139 fun t184_155 =>
          ∃ (I_156 : Nat → Value → World → Prop) (m_157 : Nat), I_156 m_157 (.int .i64 0) w_145 ∧
          ∀ m_158, ∀ t185_159, ∀ w_160, I_156 m_158 t185_159 w_160 →
           Bin Try.prog (At w_160) .lss 3 false false t185_159 t184_155 fun t186_161 =>
           If t186_161 (
            IAdS 1 t170_139 t185_159 fun t190_162 =>
            LdC (At w_160) t190_162 fun t191_163 =>
            Bin Try.prog (At w_160) .xor 5 false true t191_163 (.int .u8 5) fun t192_164 =>
            IAdS 1 t170_139 t185_159 fun t193_165 =>
            DoU Try.prog (Instr.storeAt 5 t193_165 t192_164) w_160 fun u_166 w_167 =>
            Bin Try.prog (At w_167) .add 3 false true t185_159 (.int .i64 1) fun t194_168 =>
            ∃ m_169, m_169 < m_158 ∧
            I_156 m_169 t194_168 w_167) (
            FAd 1 x_16_83 fun t196_170 =>
            LdC (At w_160) t196_170 fun t197_171 =>
            CallF Try.prog 47 #[t197_171, (.int .i64 2)] w_160 fun t198_172 w_173 =>
            Ext t198_172 0 fun t199_174 =>
            Ext t198_172 1 fun t200_175 =>
            Ext t198_172 2 fun t201_176 =>
            FAd 1 x_16_83 fun t203_177 =>
            LdC (At w_173) t203_177 fun t204_178 =>
            CallF Try.prog 46 #[t204_178] w_173 fun t205_179 w_180 =>
            Ext t205_179 0 fun t206_181 =>
            Ext t205_179 1 fun t207_182 =>
            Ext t205_179 2 fun t208_183 =>
            CallF Try.prog 25 #[t200_175, x2] w_180 fun t211_184 w_185 =>
            GdP (isB t211_184 true) (fun R => R t208_183) fun t213_186 =>
            GdP (isB t211_184 true) (fun R => R x2) fun t214_187 =>
            Gd (isB t211_184 true) (fun R => CallF Try.prog 25 #[t213_186, t214_187] w_185 R) w_185 fun t215_188 w_189 =>
            Pick t211_184 t215_188 (.bool false) fun t216_190 =>
            R t216_190 w_189)))))))
theorem C_furlonglaw16_KeepNil_ent : Ent Try.prog 11 := ⟨_, Try.func11, by decide, rfl⟩
theorem C_furlonglaw16_KeepNil_eq {x0 x1 x2 : Value} {w : World} {R : Value → World → Prop} : (C_furlonglaw16_KeepNil x0 x1 x2 w R) = vFun Try.prog Try.f11 [0, 1, 2, 6, 7, 8, 9, 10, 11, 12, 13, 14, 15, 16, 17, 18, 19, 21, 25, 26, 27, 29, 33, 35, 112, 115, 144, 146, 147, 148, 172, 173, 174, 184, 185, 186] [x0, x1, x2] w R := by kernel_rfl
theorem C_furlonglaw16_KeepNil_link {x0 x1 x2 : Value} {w : World} {R : Value → World → Prop} (h : C_furlonglaw16_KeepNil x0 x1 x2 w R) : CallF Try.prog 11 #[x0, x1, x2] w R :=
  callF_eq (fn := Try.f11) (L := [0, 1, 2, 6, 7, 8, 9, 10, 11, 12, 13, 14, 15, 16, 17, 18, 19, 21, 25, 26, 27, 29, 33, 35, 112, 115, 144, 146, 147, 148, 172, 173, 174, 184, 185, 186]) (args := [x0, x1, x2]) C_furlonglaw16_KeepNil_ent Try.func11 (by kernel_rfl) C_furlonglaw16_KeepNil_eq h

/-- furlong/furlonglaw16.awake: function 33 -/
def C_furlonglaw16_awake (w : World) (R : Value → World → Prop) : Prop :=
  CallF Try.prog 16 #[(.int .i64 4000)] w fun t11_1 w_2 =>
  Ext t11_1 0 fun t12_3 =>
  Ext t11_1 1 fun t13_4 =>
  CallF Try.prog 40 #[t12_3] w_2 fun t16_5 w_6 =>
  Ext t16_5 0 fun t17_7 =>
  Ext t16_5 1 fun t18_8 =>
  Bin Try.prog (At w_6) .neq 27 false true t13_4 (.int .i64 0) fun t20_9 =>
  GdP (isB t20_9 false) (fun R => R t18_8) fun t22_10 =>
  GdP (isB t20_9 false) (fun R => Bin Try.prog (At w_6) .neq 27 false true t22_10 (.int .i64 0) R) fun t23_11 =>
  Pick t20_9 (.bool true) t23_11 fun t24_12 =>
  GdP (isB t24_12 false) (fun R => R t17_7) fun t26_13 =>
  Gd (isB t24_12 false) (fun R => CallF Try.prog 35 #[t26_13, (.int .i64 1), (.int .i64 0)] w_6 R) w_6 fun t27_14 w_15 =>
  GdP (isB t24_12 false) (fun R => Bin Try.prog (At w_15) .neq 27 false true t27_14 (.int .i64 0) R) fun t28_16 =>
  Pick t24_12 (.bool true) t28_16 fun t29_17 =>
  GdP (isB t29_17 false) (fun R => R t17_7) fun t31_18 =>
  Gd (isB t29_17 false) (fun R => Do Try.prog (Instr.buildSlice 24 1 #[(0, (.int .u8 5))]) w_15 R) w_15 fun t32_19 w_20 =>
  Gd (isB t29_17 false) (fun R => CallF Try.prog 36 #[t31_18, (.int .i64 1), (.int .i64 1), t32_19] w_20 R) w_20 fun t33_21 w_22 =>
  GdP (isB t29_17 false) (fun R => Bin Try.prog (At w_22) .neq 27 false true t33_21 (.int .i64 0) R) fun t34_23 =>
  Pick t29_17 (.bool true) t34_23 fun t35_24 =>
  GdP (isB t35_24 false) (fun R => R t17_7) fun t37_25 =>
  Gd (isB t35_24 false) (fun R => Do Try.prog (Instr.buildSlice 24 1 #[(0, (.int .u8 6))]) w_22 R) w_22 fun t38_26 w_27 =>
  Gd (isB t35_24 false) (fun R => CallF Try.prog 36 #[t37_25, (.int .i64 2), (.int .i64 1), t38_26] w_27 R) w_27 fun t39_28 w_29 =>
  GdP (isB t35_24 false) (fun R => Bin Try.prog (At w_29) .neq 27 false true t39_28 (.int .i64 0) R) fun t40_30 =>
  Pick t35_24 (.bool true) t40_30 fun t41_31 =>
  GdP (isB t41_31 false) (fun R => R t17_7) fun t43_32 =>
  Gd (isB t41_31 false) (fun R => CallF Try.prog 38 #[t43_32] w_29 R) w_29 fun t44_33 w_34 =>
  GdP (isB t41_31 false) (fun R => Bin Try.prog (At w_34) .neq 27 false true t44_33 (.int .i64 0) R) fun t45_35 =>
  Pick t41_31 (.bool true) t45_35 fun t46_36 =>
  GdP (isB t46_36 false) (fun R => R t17_7) fun t48_37 =>
  Gd (isB t46_36 false) (fun R => Do Try.prog (Instr.buildSlice 24 1 #[(0, (.int .u8 7))]) w_34 R) w_34 fun t49_38 w_39 =>
  Gd (isB t46_36 false) (fun R => CallF Try.prog 36 #[t48_37, (.int .i64 2), (.int .i64 2), t49_38] w_39 R) w_39 fun t50_40 w_41 =>
  GdP (isB t46_36 false) (fun R => Bin Try.prog (At w_41) .neq 27 false true t50_40 (.int .i64 0) R) fun t51_42 =>
  Pick t46_36 (.bool true) t51_42 fun t52_43 =>
  GdP (isB t52_43 false) (fun R => R t12_3) fun t54_44 =>
  Gd (isB t52_43 false) (fun R => CallF Try.prog 39 #[t54_44, (.int .i64 0)] w_41 R) w_41 fun t55_45 w_46 =>
  GdP (isB t52_43 false) (fun R => Bin Try.prog (At w_46) .neq 27 false true t55_45 (.int .i64 0) R) fun t56_47 =>
  Pick t52_43 (.bool true) t56_47 fun t57_48 =>
  If t57_48 (
   R (.bool false) w_46) (
   CallF Try.prog 40 #[t12_3] w_46 fun t60_49 w_50 =>
   Ext t60_49 0 fun t61_51 =>
   Ext t60_49 1 fun t62_52 =>
   CallF Try.prog 47 #[t61_51, (.int .i64 2)] w_50 fun t65_53 w_54 =>
   Ext t65_53 0 fun t66_55 =>
   Ext t65_53 1 fun t67_56 =>
   Ext t65_53 2 fun t68_57 =>
   Bin Try.prog (At w_54) .eql 27 false true t62_52 (.int .i64 0) fun t70_58 =>
   GdP (isB t70_58 true) (fun R => R t68_57) fun t72_59 =>
   GdP (isB t70_58 true) (fun R => Bin Try.prog (At w_54) .eql 27 false true t72_59 (.int .i64 0) R) fun t73_60 =>
   Pick t70_58 t73_60 (.bool false) fun t74_61 =>
   GdP (isB t74_61 true) (fun R => R t66_55) fun t76_62 =>
   GdP (isB t74_61 true) (fun R => Bin Try.prog (At w_54) .eql 3 false true t76_62 (.int .i64 1) R) fun t77_63 =>
   Pick t74_61 t77_63 (.bool false) fun t78_64 =>
   GdP (isB t78_64 true) (fun R => R t67_56) fun t80_65 =>
   Gd (isB t78_64 true) (fun R => Do Try.prog (Instr.buildSlice 24 1 #[(0, (.int .u8 6))]) w_54 R) w_54 fun t81_66 w_67 =>
   Gd (isB t78_64 true) (fun R => CallF Try.prog 25 #[t80_65, t81_66] w_67 R) w_67 fun t82_68 w_69 =>
   Pick t78_64 t82_68 (.bool false) fun t83_70 =>
   GdP (isB t83_70 true) (fun R => R t61_51) fun t85_71 =>
   Gd (isB t83_70 true) (fun R => CallF Try.prog 44 #[t85_71] w_69 R) w_69 fun t86_72 w_73 =>
   GdP (isB t83_70 true) (fun R => Bin Try.prog (At w_73) .eql 3 false true t86_72 (.int .i64 2) R) fun t87_74 =>
   Pick t83_70 t87_74 (.bool false) fun t88_75 =>
   GdP (isB t88_75 true) (fun R => R t61_51) fun t90_76 =>
   Gd (isB t88_75 true) (fun R => CallF Try.prog 48 #[t90_76] w_73 R) w_73 fun t91_77 w_78 =>
   GdP (isB t88_75 true) (fun R => Bin Try.prog (At w_78) .eql 3 false true t91_77 (.int .i64 1) R) fun t92_79 =>
   Pick t88_75 t92_79 (.bool false) fun t93_80 =>
   GdP (isB t93_80 true) (fun R => R t61_51) fun t95_81 =>
   Gd (isB t93_80 true) (fun R => CallF Try.prog 49 #[t95_81] w_78 R) w_78 fun t96_82 w_83 =>
   GdP (isB t93_80 true) (fun R => Bin Try.prog (At w_83) .eql 3 false true t96_82 (.int .i64 0) R) fun t97_84 =>
   Pick t93_80 t97_84 (.bool false) fun t98_85 =>
   R t98_85 w_83)
theorem C_furlonglaw16_awake_ent : Ent Try.prog 33 := ⟨_, Try.func33, by decide, rfl⟩
theorem C_furlonglaw16_awake_eq {w : World} {R : Value → World → Prop} : (C_furlonglaw16_awake w R) = vFun Try.prog Try.f33 [0, 1, 2, 3, 4, 5, 6, 7, 8, 9, 57] [] w R := by kernel_rfl
theorem C_furlonglaw16_awake_link {w : World} {R : Value → World → Prop} (h : C_furlonglaw16_awake w R) : CallF Try.prog 33 #[] w R :=
  callF_eq (fn := Try.f33) (L := [0, 1, 2, 3, 4, 5, 6, 7, 8, 9, 57]) (args := []) C_furlonglaw16_awake_ent Try.func33 (by kernel_rfl) C_furlonglaw16_awake_eq h

/-- furlong/furlonglaw16.begin: function 34 -/
def C_furlonglaw16_begin (w : World) (R : Value → World → Prop) : Prop :=
  Do Try.prog (Instr.alloc 60 true (.tuple #[])) w fun t0_1 w_2 =>
  CallF Try.prog 16 #[(.int .i64 65536)] w_2 fun t9_3 w_4 =>
  Ext t9_3 0 fun t10_5 =>
  Ext t9_3 1 fun t11_6 =>
  CallF Try.prog 40 #[t10_5] w_4 fun t14_7 w_8 =>
  Ext t14_7 0 fun t15_9 =>
  Ext t14_7 1 fun t16_10 =>
  Bin Try.prog (At w_8) .neq 27 false true t11_6 (.int .i64 0) fun t18_11 =>
  GdP (isB t18_11 false) (fun R => R t16_10) fun t20_12 =>
  GdP (isB t18_11 false) (fun R => Bin Try.prog (At w_8) .neq 27 false true t20_12 (.int .i64 0) R) fun t21_13 =>
  Pick t18_11 (.bool true) t21_13 fun t22_14 =>
  GdP (isB t22_14 false) (fun R => R t15_9) fun t24_15 =>
  GdP (isB t22_14 false) (fun R => Bin Try.prog (At w_8) .eql 57 false true t24_15 (.pointer none) R) fun t25_16 =>
  Pick t22_14 (.bool true) t25_16 fun t26_17 =>
  If t26_17 (
   Bld Try.prog 60 [] fun t27_18 =>
   DoU Try.prog (Instr.storeAt 60 t0_1 t27_18) w_8 fun u_19 w_20 =>
   LdA (At w_20) 3 t0_1 fun r_21 =>
   R (.tuple #[r_21, (.bool false)]) w_20) (
   CallF Try.prog 37 #[t15_9] w_8 fun t30_22 w_23 =>
   Ext t30_22 0 fun t31_24 =>
   Ext t30_22 1 fun t32_25 =>
   Do Try.prog (Instr.alloc 67 true (.tuple #[])) w_23 fun m_6_26 w_27 =>
   DoU Try.prog (Instr.storeAt 67 m_6_26 t31_24) w_27 fun u_28 w_29 =>
   ∃ J_31 : Value → World → Prop,
   (∀ t1_32, ∀ w_33, J_31 t1_32 w_33 → (
    LdA (At w_33) 3 t0_1 fun r_34 =>
    R (.tuple #[r_34, t1_32]) w_33)) ∧
   ∃ S_30 : World → Prop, S_30 (World.drew w_29) ∧
   CallF Try.prog 75 #[] (World.drew w_29) fun t35_35 w_36 =>
   S_30 w_36 ∧
   GdP (isB t32_25 true) (fun R => LdA S_30 6 m_6_26 R) fun t40_37 =>
   (
    Do Try.prog (Instr.buildSlice 58 1 #[(0, t35_35)]) w_36 fun t36_38 w_39 =>
    S_30 w_39 ∧
    Bld Try.prog 60 [(0, t10_5), (1, t15_9), (2, t36_38)] fun t37_40 =>
    Gd (isB t32_25 true) (fun R => CallF Try.prog 75 #[] w_39 R) w_39 fun t41_41 w_42 =>
    S_30 w_42 ∧
    Gd (isB t32_25 true) (fun R => CallF Try.prog 41 #[t40_37, t41_41] w_42 R) w_42 fun t42_43 w_44 =>
    Pick t32_25 t42_43 (.bool false) fun t43_45 =>
    DoU Try.prog (Instr.storeAt 60 t0_1 t37_40) w_44 fun u_46 w_47 =>
    S_30 w_47 ∧
    J_31 t43_45 w_47) ∧
   (
    Gd (isB t32_25 true) (fun R => CallF Try.prog 75 #[] w_36 R) w_36 fun t41_48 w_49 =>
    S_30 w_49 ∧
    (
     Do Try.prog (Instr.buildSlice 58 1 #[(0, t35_35)]) w_49 fun t36_50 w_51 =>
     S_30 w_51 ∧
     Bld Try.prog 60 [(0, t10_5), (1, t15_9), (2, t36_50)] fun t37_52 =>
     Gd (isB t32_25 true) (fun R => CallF Try.prog 41 #[t40_37, t41_48] w_51 R) w_51 fun t42_53 w_54 =>
     Pick t32_25 t42_53 (.bool false) fun t43_55 =>
     DoU Try.prog (Instr.storeAt 60 t0_1 t37_52) w_54 fun u_56 w_57 =>
     S_30 w_57 ∧
    J_31 t43_55 w_57) ∧
    (
     Gd (isB t32_25 true) (fun R => CallF Try.prog 41 #[t40_37, t41_48] w_49 R) w_49 fun t42_58 w_59 =>
     Pick t32_25 t42_58 (.bool false) fun t43_60 =>
     Do Try.prog (Instr.buildSlice 58 1 #[(0, t35_35)]) w_59 fun t36_61 w_62 =>
     S_30 w_62 ∧
     Bld Try.prog 60 [(0, t10_5), (1, t15_9), (2, t36_61)] fun t37_63 =>
     DoU Try.prog (Instr.storeAt 60 t0_1 t37_63) w_62 fun u_64 w_65 =>
     S_30 w_65 ∧
    J_31 t43_60 w_65)))
theorem C_furlonglaw16_begin_ent : Ent Try.prog 34 := ⟨_, Try.func34, by decide, rfl⟩
theorem C_furlonglaw16_begin_eq {w : World} {R : Value → World → Prop} : (C_furlonglaw16_begin w R) = vFun Try.prog Try.f34 [0, 1, 2, 3, 4, 5, 6, 7, 26] [] w R := by kernel_rfl
theorem C_furlonglaw16_begin_link {w : World} {R : Value → World → Prop} (h : C_furlonglaw16_begin w R) : CallF Try.prog 34 #[] w R :=
  callF_eq (fn := Try.f34) (L := [0, 1, 2, 3, 4, 5, 6, 7, 26]) (args := []) C_furlonglaw16_begin_ent Try.func34 (by kernel_rfl) C_furlonglaw16_begin_eq h

/-- (*furlong/keep.Keep).Vote: function 35 -/
def C_keep_Keep_Vote (x0 : Value) (x1 : Value) (x2 : Value) (w : World) (R : Value → World → Prop) : Prop :=
  Bin Try.prog (At w) .eql 57 false true x0 (.pointer none) fun t10_1 =>
  If t10_1 (
   R (.int .i64 17) w) (
   Bin Try.prog (At w) .lss 3 false true x1 (.int .i64 0) fun t13_2 =>
   GdP (isB t13_2 false) (fun R => R x1) fun t15_3 =>
   GdP (isB t13_2 false) (fun R => R x0) fun t16_4 =>
   GdP (isB t13_2 false) (fun R => NilC t16_4 R) fun t17_5 =>
   GdP (isB t13_2 false) (fun R => FAd 1 t17_5 R) fun t18_6 =>
   GdP (isB t13_2 false) (fun R => LdC (At w) t18_6 R) fun t19_7 =>
   GdP (isB t13_2 false) (fun R => Bin Try.prog (At w) .lss 3 false false t15_3 t19_7 R) fun t20_8 =>
   Pick t13_2 (.bool true) t20_8 fun t21_9 =>
   GdP (isB t21_9 false) (fun R => R x2) fun t23_10 =>
   GdP (isB t21_9 false) (fun R => Bin Try.prog (At w) .lss 3 false true t23_10 (.int .i64 (-1)) R) fun t24_11 =>
   Pick t21_9 (.bool true) t24_11 fun t25_12 =>
   If t25_12 (
    R (.int .i64 1) w) (
    Do Try.prog (Instr.buildSlice 22 3 #[(0, (.int .i64 1)), (1, x1), (2, x2)]) w fun t29_13 w_14 =>
    CallF Try.prog 77 #[(.slice none 0 0), t29_13] w_14 fun t30_15 w_16 =>
    CallF Try.prog 76 #[x0, t30_15] w_16 fun t31_17 w_18 =>
    Bin Try.prog (At w_18) .neq 27 false true t31_17 (.int .i64 0) fun t33_19 =>
    If t33_19 (
     R t31_17 w_18) (
     NilC x0 fun t39_20 =>
     FAd 1 t39_20 fun t40_21 =>
     DoU Try.prog (Instr.storeAt 3 t40_21 x1) w_18 fun u_22 w_23 =>
     NilC x0 fun t41_24 =>
     FAd 2 t41_24 fun t42_25 =>
     DoU Try.prog (Instr.storeAt 3 t42_25 x2) w_23 fun u_26 w_27 =>
     R (.int .i64 0) w_27)))
theorem C_keep_Keep_Vote_ent : Ent Try.prog 35 := ⟨_, Try.func35, by decide, rfl⟩
theorem C_keep_Keep_Vote_eq {x0 x1 x2 : Value} {w : World} {R : Value → World → Prop} : (C_keep_Keep_Vote x0 x1 x2 w R) = vFun Try.prog Try.f35 [0, 1, 2, 6, 7, 8, 11, 33] [x0, x1, x2] w R := by kernel_rfl
theorem C_keep_Keep_Vote_link {x0 x1 x2 : Value} {w : World} {R : Value → World → Prop} (h : C_keep_Keep_Vote x0 x1 x2 w R) : CallF Try.prog 35 #[x0, x1, x2] w R :=
  callF_eq (fn := Try.f35) (L := [0, 1, 2, 6, 7, 8, 11, 33]) (args := [x0, x1, x2]) C_keep_Keep_Vote_ent Try.func35 (by kernel_rfl) C_keep_Keep_Vote_eq h

/-- (*furlong/keep.Keep).Put: function 36 -/
def C_keep_Keep_Put (x0 : Value) (x1 : Value) (x2 : Value) (x3 : Value) (w : World) (R : Value → World → Prop) : Prop :=
  Bin Try.prog (At w) .eql 57 false true x0 (.pointer none) fun t13_1 =>
  If t13_1 (
   R (.int .i64 17) w) (
   NilC x0 fun t17_2 =>
   FAd 3 t17_2 fun t18_3 =>
   LdC (At w) t18_3 fun t19_4 =>
   Bin Try.prog (At w) .leq 3 false false x1 t19_4 fun t20_5 =>
   GdP (isB t20_5 false) (fun R => R x1) fun t22_6 =>
   GdP (isB t20_5 false) (fun R => R x0) fun t23_7 =>
   Gd (isB t20_5 false) (fun R => CallF Try.prog 44 #[t23_7] w R) w fun t24_8 w_9 =>
   GdP (isB t20_5 false) (fun R => Bin Try.prog (At w_9) .add 3 false true t24_8 (.int .i64 1) R) fun t25_10 =>
   GdP (isB t20_5 false) (fun R => Bin Try.prog (At w_9) .gtr 3 false false t22_6 t25_10 R) fun t26_11 =>
   Pick t20_5 (.bool true) t26_11 fun t27_12 =>
   GdP (isB t27_12 false) (fun R => R x2) fun t29_13 =>
   GdP (isB t27_12 false) (fun R => Bin Try.prog (At w_9) .lss 3 false true t29_13 (.int .i64 0) R) fun t30_14 =>
   Pick t27_12 (.bool true) t30_14 fun t31_15 =>
   GdP (isB t31_15 false) (fun R => R x3) fun t33_16 =>
   GdP (isB t31_15 false) (fun R => Len t33_16 R) fun t34_17 =>
   GdP (isB t31_15 false) (fun R => Bin Try.prog (At w_9) .gtr 3 false true t34_17 (.int .i64 60000) R) fun t35_18 =>
   Pick t31_15 (.bool true) t35_18 fun t36_19 =>
   If t36_19 (
    R (.int .i64 1) w_9) (
    Do Try.prog (Instr.buildSlice 22 3 #[(0, (.int .i64 2)), (1, x1), (2, x2)]) w_9 fun t40_20 w_21 =>
    CallF Try.prog 77 #[(.slice none 0 0), t40_20] w_21 fun t41_22 w_23 =>
    CallF Try.prog 78 #[t41_22, x3] w_23 fun t43_24 w_25 =>
    CallF Try.prog 76 #[x0, t43_24] w_25 fun t44_26 w_27 =>
    Bin Try.prog (At w_27) .neq 27 false true t44_26 (.int .i64 0) fun t46_28 =>
    If t46_28 (
     R t44_26 w_27) (
     NilC x0 fun t50_29 =>
     FAd 3 t50_29 fun t51_30 =>
     LdC (At w_27) t51_30 fun t52_31 =>
     Bin Try.prog (At w_27) .sub 3 false false x1 t52_31 fun t53_32 =>
     Bin Try.prog (At w_27) .sub 3 false true t53_32 (.int .i64 1) fun t54_33 =>
     ∃ S_34 : World → Prop, S_34 (World.drew w_27) ∧
     NilC x0 fun t57_35 =>
     FAd 6 t57_35 fun t58_36 =>
     LdC S_34 t58_36 fun t59_37 =>
     SlcS 2 t59_37 none (some t54_33) (some t54_33) fun t62_38 =>
     Do Try.prog (Builtin.append_ #[24, 24] 24 #[(.slice none 0 0), x3]) (World.drew w_27) fun t65_39 w_40 =>
     S_34 w_40 ∧
     Bld Try.prog 141 [(0, x2), (1, t65_39)] fun t66_41 =>
     Do Try.prog (Instr.buildSlice 135 1 #[(0, t66_41)]) w_40 fun t67_42 w_43 =>
     S_34 w_43 ∧
     Do Try.prog (Builtin.append_ #[135, 135] 135 #[t62_38, t67_42]) w_43 fun t68_44 w_45 =>
     S_34 w_45 ∧
     NilC x0 fun t69_46 =>
     FAd 6 t69_46 fun t70_47 =>
     DoU Try.prog (Instr.storeAt 135 t70_47 t68_44) w_45 fun u_48 w_49 =>
     R (.int .i64 0) w_49)))
theorem C_keep_Keep_Put_ent : Ent Try.prog 36 := ⟨_, Try.func36, by decide, rfl⟩
theorem C_keep_Keep_Put_eq {x0 x1 x2 x3 : Value} {w : World} {R : Value → World → Prop} : (C_keep_Keep_Put x0 x1 x2 x3 w R) = vFun Try.prog Try.f36 [0, 1, 2, 3, 8, 9, 10, 11, 14, 46] [x0, x1, x2, x3] w R := by kernel_rfl
theorem C_keep_Keep_Put_link {x0 x1 x2 x3 : Value} {w : World} {R : Value → World → Prop} (h : C_keep_Keep_Put x0 x1 x2 x3 w R) : CallF Try.prog 36 #[x0, x1, x2, x3] w R :=
  callF_eq (fn := Try.f36) (L := [0, 1, 2, 3, 8, 9, 10, 11, 14, 46]) (args := [x0, x1, x2, x3]) C_keep_Keep_Put_ent Try.func36 (by kernel_rfl) C_keep_Keep_Put_eq h

/-- furlong/furlonglaw16.now: function 37 -/
def C_furlonglaw16_now (x0 : Value) (w : World) (R : Value → World → Prop) : Prop :=
  Do Try.prog (Instr.alloc 67 true (.tuple #[])) w fun t2_1 w_2 =>
  CallF Try.prog 46 #[x0] w_2 fun t20_3 w_4 =>
  Ext t20_3 0 fun t21_5 =>
  Ext t20_3 1 fun t22_6 =>
  Ext t20_3 2 fun t23_7 =>
  CallF Try.prog 48 #[x0] w_4 fun t25_8 w_9 =>
  CallF Try.prog 49 #[x0] w_9 fun t27_10 w_11 =>
  Bld Try.prog 67 [(0, t25_8), (1, t27_10), (2, t21_5), (3, t22_6), (4, t23_7)] fun t31_12 =>
  Do Try.prog (Instr.alloc 67 true (.tuple #[])) w_11 fun m_7_13 w_14 =>
  DoU Try.prog (Instr.storeAt 67 m_7_13 t31_12) w_14 fun u_15 w_16 =>
  CallF Try.prog 44 #[x0] w_16 fun t33_17 w_18 =>
  Bin Try.prog (At w_18) .lss 3 false false t33_17 t21_5 fun t35_19 =>
  GdP (isB t35_19 false) (fun R => R x0) fun t37_20 =>
  Gd (isB t35_19 false) (fun R => CallF Try.prog 44 #[t37_20] w_18 R) w_18 fun t38_21 w_22 =>
  GdP (isB t35_19 false) (fun R => R t21_5) fun t39_23 =>
  GdP (isB t35_19 false) (fun R => Bin Try.prog (At w_22) .sub 3 false false t38_21 t39_23 R) fun t40_24 =>
  GdP (isB t35_19 false) (fun R => Bin Try.prog (At w_22) .gtr 3 false true t40_24 (.int .i64 5000) R) fun t41_25 =>
  Pick t35_19 (.bool true) t41_25 fun t42_26 =>
  If t42_26 (
   LdA (At w_22) 6 m_7_13 fun t43_27 =>
   DoU Try.prog (Instr.storeAt 67 t2_1 t43_27) w_22 fun u_28 w_29 =>
   LdA (At w_29) 6 t2_1 fun r_30 =>
   R (.tuple #[r_30, (.bool false)]) w_29) (
   Bin Try.prog (At w_22) .add 3 false true t21_5 (.int .i64 1) fun t45_31 =>
   ∃ (I_32 : Nat → Value → Value → World → Prop) (m_33 : Nat), I_32 m_33 (.bool false) t45_31 w_22 ∧
   ∀ m_34, ∀ t3_35, ∀ i_8_36, ∀ w_37, I_32 m_34 t3_35 i_8_36 w_37 →
    CallF Try.prog 44 #[x0] w_37 fun t48_38 w_39 =>
    Bin Try.prog (At w_39) .leq 3 false false i_8_36 t48_38 fun t49_40 =>
    If t49_40 (
     CallF Try.prog 47 #[x0, i_8_36] w_39 fun t55_41 w_42 =>
     Ext t55_41 0 fun t56_43 =>
     Ext t55_41 1 fun t57_44 =>
     Ext t55_41 2 fun t58_45 =>
     Bin Try.prog (At w_42) .neq 27 false true t58_45 (.int .i64 0) fun t60_46 =>
     If t60_46 (
      LdA (At w_42) 6 m_7_13 fun t61_47 =>
      DoU Try.prog (Instr.storeAt 67 t2_1 t61_47) w_42 fun u_48 w_49 =>
      LdA (At w_49) 6 t2_1 fun r_50 =>
      R (.tuple #[r_50, (.bool false)]) w_49) (
      FAd 5 m_7_13 fun t62_51 =>
      LdC (At w_42) t62_51 fun t63_52 =>
      Bld Try.prog 80 [(0, t56_43), (1, t57_44)] fun t66_53 =>
      Do Try.prog (Instr.buildSlice 65 1 #[(0, t66_53)]) w_42 fun t67_54 w_55 =>
      Do Try.prog (Builtin.append_ #[65, 65] 65 #[t63_52, t67_54]) w_55 fun t68_56 w_57 =>
      FAd 5 m_7_13 fun t69_58 =>
      DoU Try.prog (Instr.storeAt 65 t69_58 t68_56) w_57 fun u_59 w_60 =>
      Bin Try.prog (At w_60) .add 3 false true i_8_36 (.int .i64 1) fun t51_61 =>
      ∃ m_62, m_62 < m_34 ∧
      I_32 m_62 t3_35 t51_61 w_60)) (
     CallF Try.prog 47 #[x0, t21_5] w_39 fun t73_63 w_64 =>
     Ext t73_63 0 fun t74_65 =>
     Ext t73_63 1 fun t75_66 =>
     Ext t73_63 2 fun t76_67 =>
     CallF Try.prog 44 #[x0] w_64 fun t80_68 w_69 =>
     Bin Try.prog (At w_69) .add 3 false true t80_68 (.int .i64 1) fun t81_70 =>
     CallF Try.prog 47 #[x0, t81_70] w_69 fun t82_71 w_72 =>
     Ext t82_71 0 fun t83_73 =>
     Ext t82_71 1 fun t84_74 =>
     Ext t82_71 2 fun t85_75 =>
     LdA (At w_72) 6 m_7_13 fun t86_76 =>
     Bin Try.prog (At w_72) .eql 27 false true t76_67 (.int .i64 8) fun t88_77 =>
     GdP (isB t88_77 true) (fun R => R t85_75) fun t90_78 =>
     GdP (isB t88_77 true) (fun R => Bin Try.prog (At w_72) .eql 27 false true t90_78 (.int .i64 8) R) fun t91_79 =>
     Pick t88_77 t91_79 (.bool false) fun t92_80 =>
     DoU Try.prog (Instr.storeAt 67 t2_1 t86_76) w_72 fun u_81 w_82 =>
     LdA (At w_82) 6 t2_1 fun r_83 =>
     R (.tuple #[r_83, t92_80]) w_82))
theorem C_furlonglaw16_now_ent : Ent Try.prog 37 := ⟨_, Try.func37, by decide, rfl⟩
theorem C_furlonglaw16_now_eq {x0 : Value} {w : World} {R : Value → World → Prop} : (C_furlonglaw16_now x0 w R) = vFun Try.prog Try.f37 [0, 2, 3, 4, 5, 6, 7, 8, 9, 10, 11, 14, 17, 42, 49, 60] [x0] w R := by kernel_rfl
theorem C_furlonglaw16_now_link {x0 : Value} {w : World} {R : Value → World → Prop} (h : C_furlonglaw16_now x0 w R) : CallF Try.prog 37 #[x0] w R :=
  callF_eq (fn := Try.f37) (L := [0, 2, 3, 4, 5, 6, 7, 8, 9, 10, 11, 14, 17, 42, 49, 60]) (args := [x0]) C_furlonglaw16_now_ent Try.func37 (by kernel_rfl) C_furlonglaw16_now_eq h

/-- (*furlong/keep.Keep).Sync: function 38 -/
def C_keep_Keep_Sync (x0 : Value) (w : World) (R : Value → World → Prop) : Prop :=
  Bin Try.prog (At w) .eql 57 false true x0 (.pointer none) fun t4_1 =>
  If t4_1 (
   R (.int .i64 17) w) (
   NilC x0 fun t6_2 =>
   FAd 0 t6_2 fun t7_3 =>
   LdC (At w) t7_3 fun t8_4 =>
   CallF Try.prog 21 #[t8_4] w fun t9_5 w_6 =>
   R t9_5 w_6)
theorem C_keep_Keep_Sync_ent : Ent Try.prog 38 := ⟨_, Try.func38, by decide, rfl⟩
theorem C_keep_Keep_Sync_eq {x0 : Value} {w : World} {R : Value → World → Prop} : (C_keep_Keep_Sync x0 w R) = vFun Try.prog Try.f38 [0, 2, 4] [x0] w R := by kernel_rfl
theorem C_keep_Keep_Sync_link {x0 : Value} {w : World} {R : Value → World → Prop} (h : C_keep_Keep_Sync x0 w R) : CallF Try.prog 38 #[x0] w R :=
  callF_eq (fn := Try.f38) (L := [0, 2, 4]) (args := [x0]) C_keep_Keep_Sync_ent Try.func38 (by kernel_rfl) C_keep_Keep_Sync_eq h

/-- furlong/keep.Open: function 40 -/
def C_keep_Open (x0 : Value) (w : World) (R : Value → World → Prop) : Prop :=
  CallF Try.prog 18 #[x0] w fun t12_1 w_2 =>
  Ext t12_1 0 fun t13_3 =>
  Ext t12_1 1 fun t14_4 =>
  Ext t12_1 2 fun t15_5 =>
  Do Try.prog (Instr.alloc 33 true (.tuple #[])) w_2 fun f_5_6 w_7 =>
  DoU Try.prog (Instr.storeAt 33 f_5_6 t14_4) w_7 fun u_8 w_9 =>
  Bin Try.prog (At w_9) .neq 27 false true t15_5 (.int .i64 0) fun t17_10 =>
  If t17_10 (
   R (.tuple #[(.pointer none), t15_5]) w_9) (
   Bld Try.prog 137 [(0, t13_3), (2, (.int .i64 (-1)))] fun t20_11 =>
   Do Try.prog (Instr.box 137 t20_11) w_9 fun t21_12 w_13 =>
   FAd 0 f_5_6 fun t22_14 =>
   LdC (At w_13) t22_14 fun t23_15 =>
   GdP (isB t23_15 true) (fun R => R t21_12) fun t25_16 =>
   GdP (isB t23_15 true) (fun R => FAd 1 f_5_6 R) fun t26_17 =>
   GdP (isB t23_15 true) (fun R => LdC (At w_13) t26_17 R) fun t27_18 =>
   Gd (isB t23_15 true) (fun R => CallF Try.prog 79 #[t25_16, t27_18] w_13 R) w_13 fun t28_19 w_20 =>
   GdP (isB t23_15 true) (fun R => Un Try.prog (At w_20) .not t28_19 R) fun t29_21 =>
   Pick t23_15 t29_21 (.bool false) fun t30_22 =>
   If t30_22 (
    R (.tuple #[(.pointer none), (.int .i64 4)]) w_20) (
    FAd 2 f_5_6 fun t31_23 =>
    LdC (At w_20) t31_23 fun t32_24 =>
    Len t32_24 fun t33_25 =>
    ∃ (I_26 : Nat → Value → Value → Value → World → Prop) (m_27 : Nat), I_26 m_27 (.pointer none) (.int .i64 0) (.int .i64 0) w_20 ∧
    ∀ m_28, ∀ t2_29, ∀ t3_30, ∀ t34_31, ∀ w_32, I_26 m_28 t2_29 t3_30 t34_31 w_32 →
     Bin Try.prog (At w_32) .lss 3 false false t34_31 t33_25 fun t35_33 =>
     If t35_33 (
      IAdS 1 t32_24 t34_31 fun t36_34 =>
      LdC (At w_32) t36_34 fun t37_35 =>
      CallF Try.prog 80 #[t21_12, t37_35] w_32 fun t40_36 w_37 =>
      Un Try.prog (At w_37) .not t40_36 fun t41_38 =>
      If t41_38 (
       R (.tuple #[(.pointer none), (.int .i64 4)]) w_37) (
       Bin Try.prog (At w_37) .add 3 false true t34_31 (.int .i64 1) fun t42_39 =>
       ∃ m_40, m_40 < m_28 ∧
       I_26 m_40 t2_29 t3_30 t42_39 w_37)) (
      R (.tuple #[t21_12, (.int .i64 0)]) w_32)))
theorem C_keep_Open_ent : Ent Try.prog 40 := ⟨_, Try.func40, by decide, rfl⟩
theorem C_keep_Open_eq {x0 : Value} {w : World} {R : Value → World → Prop} : (C_keep_Open x0 w R) = vFun Try.prog Try.f40 [0, 2, 3, 4, 5, 6, 7, 9, 17, 30, 32, 33, 34, 35, 41] [x0] w R := by kernel_rfl
theorem C_keep_Open_link {x0 : Value} {w : World} {R : Value → World → Prop} (h : C_keep_Open x0 w R) : CallF Try.prog 40 #[x0] w R :=
  callF_eq (fn := Try.f40) (L := [0, 2, 3, 4, 5, 6, 7, 9, 17, 30, 32, 33, 34, 35, 41]) (args := [x0]) C_keep_Open_ent Try.func40 (by kernel_rfl) C_keep_Open_eq h

/-- furlong/furlongref16.Same: function 41 -/
def C_furlongref16_Same (x0 : Value) (x1 : Value) (w : World) (R : Value → World → Prop) : Prop :=
  Do Try.prog (Instr.box 67 x0) w fun a_2_1 w_2 =>
  Do Try.prog (Instr.box 67 x1) w_2 fun b_3_3 w_4 =>
  FAd 0 a_2_1 fun t6_5 =>
  LdC (At w_4) t6_5 fun t7_6 =>
  FAd 0 b_3_3 fun t8_7 =>
  LdC (At w_4) t8_7 fun t9_8 =>
  Bin Try.prog (At w_4) .neq 3 false false t7_6 t9_8 fun t10_9 =>
  GdP (isB t10_9 false) (fun R => FAd 1 a_2_1 R) fun t12_10 =>
  GdP (isB t10_9 false) (fun R => LdC (At w_4) t12_10 R) fun t13_11 =>
  GdP (isB t10_9 false) (fun R => FAd 1 b_3_3 R) fun t14_12 =>
  GdP (isB t10_9 false) (fun R => LdC (At w_4) t14_12 R) fun t15_13 =>
  GdP (isB t10_9 false) (fun R => Bin Try.prog (At w_4) .neq 3 false false t13_11 t15_13 R) fun t16_14 =>
  Pick t10_9 (.bool true) t16_14 fun t17_15 =>
  GdP (isB t17_15 false) (fun R => FAd 2 a_2_1 R) fun t19_16 =>
  GdP (isB t17_15 false) (fun R => LdC (At w_4) t19_16 R) fun t20_17 =>
  GdP (isB t17_15 false) (fun R => FAd 2 b_3_3 R) fun t21_18 =>
  GdP (isB t17_15 false) (fun R => LdC (At w_4) t21_18 R) fun t22_19 =>
  GdP (isB t17_15 false) (fun R => Bin Try.prog (At w_4) .neq 3 false false t20_17 t22_19 R) fun t23_20 =>
  Pick t17_15 (.bool true) t23_20 fun t24_21 =>
  GdP (isB t24_21 false) (fun R => FAd 3 a_2_1 R) fun t26_22 =>
  GdP (isB t24_21 false) (fun R => LdC (At w_4) t26_22 R) fun t27_23 =>
  GdP (isB t24_21 false) (fun R => FAd 3 b_3_3 R) fun t28_24 =>
  GdP (isB t24_21 false) (fun R => LdC (At w_4) t28_24 R) fun t29_25 =>
  GdP (isB t24_21 false) (fun R => Bin Try.prog (At w_4) .neq 3 false false t27_23 t29_25 R) fun t30_26 =>
  Pick t24_21 (.bool true) t30_26 fun t31_27 =>
  GdP (isB t31_27 false) (fun R => FAd 4 a_2_1 R) fun t33_28 =>
  GdP (isB t31_27 false) (fun R => LdC (At w_4) t33_28 R) fun t34_29 =>
  GdP (isB t31_27 false) (fun R => FAd 4 b_3_3 R) fun t35_30 =>
  GdP (isB t31_27 false) (fun R => LdC (At w_4) t35_30 R) fun t36_31 =>
  Gd (isB t31_27 false) (fun R => CallF Try.prog 25 #[t34_29, t36_31] w_4 R) w_4 fun t37_32 w_33 =>
  GdP (isB t31_27 false) (fun R => Un Try.prog (At w_33) .not t37_32 R) fun t38_34 =>
  Pick t31_27 (.bool true) t38_34 fun t39_35 =>
  GdP (isB t39_35 false) (fun R => FAd 5 a_2_1 R) fun t41_36 =>
  GdP (isB t39_35 false) (fun R => LdC (At w_33) t41_36 R) fun t42_37 =>
  GdP (isB t39_35 false) (fun R => Len t42_37 R) fun t43_38 =>
  GdP (isB t39_35 false) (fun R => FAd 5 b_3_3 R) fun t44_39 =>
  GdP (isB t39_35 false) (fun R => LdC (At w_33) t44_39 R) fun t45_40 =>
  GdP (isB t39_35 false) (fun R => Len t45_40 R) fun t46_41 =>
  GdP (isB t39_35 false) (fun R => Bin Try.prog (At w_33) .neq 3 false false t43_38 t46_41 R) fun t47_42 =>
  Pick t39_35 (.bool true) t47_42 fun t48_43 =>
  If t48_43 (
   R (.bool false) w_33) (
   FAd 5 a_2_1 fun t49_44 =>
   LdC (At w_33) t49_44 fun t50_45 =>
   Len t50_45 fun t51_46 =>
   ∃ (I_47 : Nat → Value → Value → World → Prop) (m_48 : Nat), I_47 m_48 (.bool false) (.int .i64 0) w_33 ∧
   ∀ m_49, ∀ t4_50, ∀ t52_51, ∀ w_52, I_47 m_49 t4_50 t52_51 w_52 →
    Bin Try.prog (At w_52) .lss 3 false false t52_51 t51_46 fun t53_53 =>
    If t53_53 (
     ∃ S_54 : World → Prop, S_54 (World.drew w_52) ∧
     FAd 5 a_2_1 fun t55_55 =>
     LdC S_54 t55_55 fun t56_56 =>
     IAdS 2 t56_56 t52_51 fun t58_57 =>
     FAd 0 t58_57 fun t59_58 =>
     LdC S_54 t59_58 fun t60_59 =>
     FAd 5 b_3_3 fun t61_60 =>
     LdC S_54 t61_60 fun t62_61 =>
     IAdS 2 t62_61 t52_51 fun t64_62 =>
     FAd 0 t64_62 fun t65_63 =>
     LdC S_54 t65_63 fun t66_64 =>
     Bin Try.prog S_54 .neq 3 false false t60_59 t66_64 fun t67_65 =>
     GdP (isB t67_65 false) (fun R => FAd 5 a_2_1 R) fun t69_66 =>
     GdP (isB t67_65 false) (fun R => LdC S_54 t69_66 R) fun t70_67 =>
     GdP (isB t67_65 false) (fun R => R t52_51) fun t71_68 =>
     GdP (isB t67_65 false) (fun R => IAdS 2 t70_67 t71_68 R) fun t72_69 =>
     GdP (isB t67_65 false) (fun R => FAd 1 t72_69 R) fun t73_70 =>
     GdP (isB t67_65 false) (fun R => LdC S_54 t73_70 R) fun t74_71 =>
     GdP (isB t67_65 false) (fun R => FAd 5 b_3_3 R) fun t75_72 =>
     GdP (isB t67_65 false) (fun R => LdC S_54 t75_72 R) fun t76_73 =>
     GdP (isB t67_65 false) (fun R => R t52_51) fun t77_74 =>
     GdP (isB t67_65 false) (fun R => IAdS 2 t76_73 t77_74 R) fun t78_75 =>
     GdP (isB t67_65 false) (fun R => FAd 1 t78_75 R) fun t79_76 =>
     GdP (isB t67_65 false) (fun R => LdC S_54 t79_76 R) fun t80_77 =>
     Gd (isB t67_65 false) (fun R => CallF Try.prog 25 #[t74_71, t80_77] (World.drew w_52) R) (World.drew w_52) fun t81_78 w_79 =>
     S_54 w_79 ∧
     GdP (isB t67_65 false) (fun R => Un Try.prog S_54 .not t81_78 R) fun t82_80 =>
     Pick t67_65 (.bool true) t82_80 fun t83_81 =>
     If t83_81 (
      R (.bool false) w_79) (
      Bin Try.prog (At w_79) .add 3 false true t52_51 (.int .i64 1) fun t84_82 =>
      ∃ m_83, m_83 < m_49 ∧
      I_47 m_83 t4_50 t84_82 w_79)) (
     R (.bool true) w_52))
theorem C_furlongref16_Same_ent : Ent Try.prog 41 := ⟨_, Try.func41, by decide, rfl⟩
theorem C_furlongref16_Same_eq {x0 x1 : Value} {w : World} {R : Value → World → Prop} : (C_furlongref16_Same x0 x1 w R) = vFun Try.prog Try.f41 [0, 1, 2, 3, 4, 5, 48, 51, 52, 53, 83] [x0, x1] w R := by kernel_rfl
theorem C_furlongref16_Same_link {x0 x1 : Value} {w : World} {R : Value → World → Prop} (h : C_furlongref16_Same x0 x1 w R) : CallF Try.prog 41 #[x0, x1] w R :=
  callF_eq (fn := Try.f41) (L := [0, 1, 2, 3, 4, 5, 48, 51, 52, 53, 83]) (args := [x0, x1]) C_furlongref16_Same_ent Try.func41 (by kernel_rfl) C_furlongref16_Same_eq h

/-- (*furlong/furlonglaw16.desk).do: function 42 -/
def C_furlonglaw16_desk_do (x0 : Value) (x1 : Value) (w : World) (R : Value → World → Prop) : Prop :=
  Do Try.prog (Instr.box 71 x1) w fun o_3_1 w_2 =>
  ∃ S_3 : World → Prop, S_3 (World.drew w_2) ∧
  NilC x0 fun t16_4 =>
  FAd 2 t16_4 fun t17_5 =>
  LdC S_3 t17_5 fun t18_6 =>
  NilC x0 fun t20_7 =>
  FAd 2 t20_7 fun t21_8 =>
  LdC S_3 t21_8 fun t22_9 =>
  Len t22_9 fun t23_10 =>
  Bin Try.prog S_3 .sub 3 false true t23_10 (.int .i64 1) fun t24_11 =>
  IAdS 6 t18_6 t24_11 fun t25_12 =>
  LdA S_3 6 t25_12 fun t26_13 =>
  Do Try.prog (Instr.alloc 67 true (.tuple #[])) (World.drew w_2) fun last_5_14 w_15 =>
  S_3 w_15 ∧
  DoU Try.prog (Instr.storeAt 67 last_5_14 t26_13) w_15 fun u_16 w_17 =>
  FAd 0 o_3_1 fun t27_18 =>
  LdC (At w_17) t27_18 fun t28_19 =>
  Bin Try.prog (At w_17) .eql 3 false true t28_19 (.int .i64 0) fun t30_20 =>
  ∃ J_21 : Value → World → Prop,
  (∀ ok_6_22, ∀ w_23, J_21 ok_6_22 w_23 → (
   NilC x0 fun t140_24 =>
   FAd 1 t140_24 fun t141_25 =>
   LdC (At w_23) t141_25 fun t142_26 =>
   CallF Try.prog 37 #[t142_26] w_23 fun t143_27 w_28 =>
   Ext t143_27 0 fun t144_29 =>
   Ext t143_27 1 fun t145_30 =>
   Do Try.prog (Instr.alloc 67 true (.tuple #[])) w_28 fun m_13_31 w_32 =>
   DoU Try.prog (Instr.storeAt 67 m_13_31 t144_29) w_32 fun u_33 w_34 =>
   ∃ S_35 : World → Prop, S_35 (World.drew w_34) ∧
   GdP (isB ok_6_22 true) (fun R => R t145_30) fun t148_36 =>
   Pick ok_6_22 t148_36 (.bool false) fun t149_37 =>
   GdP (isB t149_37 true) (fun R => LdA S_35 6 m_13_31 R) fun t151_38 =>
   GdP (isB t149_37 true) (fun R => R x0) fun t152_39 =>
   GdP (isB t149_37 true) (fun R => NilC t152_39 R) fun t153_40 =>
   GdP (isB t149_37 true) (fun R => FAd 2 t153_40 R) fun t154_41 =>
   GdP (isB t149_37 true) (fun R => LdC S_35 t154_41 R) fun t155_42 =>
   GdP (isB t149_37 true) (fun R => R x0) fun t156_43 =>
   GdP (isB t149_37 true) (fun R => NilC t156_43 R) fun t157_44 =>
   GdP (isB t149_37 true) (fun R => FAd 2 t157_44 R) fun t158_45 =>
   GdP (isB t149_37 true) (fun R => LdC S_35 t158_45 R) fun t159_46 =>
   GdP (isB t149_37 true) (fun R => Len t159_46 R) fun t160_47 =>
   GdP (isB t149_37 true) (fun R => Bin Try.prog S_35 .sub 3 false true t160_47 (.int .i64 1) R) fun t161_48 =>
   GdP (isB t149_37 true) (fun R => IAdS 6 t155_42 t161_48 R) fun t162_49 =>
   GdP (isB t149_37 true) (fun R => LdA S_35 6 t162_49 R) fun t163_50 =>
   Gd (isB t149_37 true) (fun R => CallF Try.prog 41 #[t151_38, t163_50] (World.drew w_34) R) (World.drew w_34) fun t164_51 w_52 =>
   S_35 w_52 ∧
   Pick t149_37 t164_51 (.bool false) fun t165_53 =>
   R t165_53 w_52)) ∧
  If t30_20 (
   LdA (At w_17) 6 last_5_14 fun t32_54 =>
   FAd 2 o_3_1 fun t33_55 =>
   LdC (At w_17) t33_55 fun t34_56 =>
   FAd 3 o_3_1 fun t35_57 =>
   LdC (At w_17) t35_57 fun t36_58 =>
   CallF Try.prog 81 #[t32_54, t34_56, t36_58] w_17 fun t37_59 w_60 =>
   Ext t37_59 0 fun t38_61 =>
   Ext t37_59 1 fun t39_62 =>
   Do Try.prog (Instr.alloc 67 true (.tuple #[])) w_60 fun m_7_63 w_64 =>
   DoU Try.prog (Instr.storeAt 67 m_7_63 t38_61) w_64 fun u_65 w_66 =>
   ∃ S_67 : World → Prop, S_67 (World.drew w_66) ∧
   LdA S_67 6 m_7_63 fun t41_68 =>
   NilC x0 fun t43_69 =>
   FAd 1 t43_69 fun t44_70 =>
   LdC S_67 t44_70 fun t45_71 =>
   FAd 2 o_3_1 fun t46_72 =>
   LdC S_67 t46_72 fun t47_73 =>
   FAd 3 o_3_1 fun t48_74 =>
   LdC S_67 t48_74 fun t49_75 =>
   CallF Try.prog 35 #[t45_71, t47_73, t49_75] (World.drew w_66) fun t50_76 w_77 =>
   S_67 w_77 ∧
   CallF Try.prog 82 #[x0, t41_68, t50_76, t39_62, (.bool false)] w_77 fun t52_78 w_79 =>
   S_67 w_79 ∧
   J_21 t52_78 w_79) (
   Bin Try.prog (At w_17) .eql 3 false true t28_19 (.int .i64 1) fun t54_80 =>
   ∃ J_81 : Value → World → Prop,
   (∀ ok_6_82, ∀ w_83, J_81 ok_6_82 w_83 → (
    J_21 ok_6_82 w_83)) ∧
   If t54_80 (
    LdA (At w_17) 6 last_5_14 fun t56_84 =>
    FAd 1 o_3_1 fun t57_85 =>
    LdC (At w_17) t57_85 fun t58_86 =>
    FAd 2 o_3_1 fun t59_87 =>
    LdC (At w_17) t59_87 fun t60_88 =>
    FAd 4 o_3_1 fun t61_89 =>
    LdC (At w_17) t61_89 fun t62_90 =>
    CallF Try.prog 83 #[t56_84, t58_86, t60_88, t62_90] w_17 fun t63_91 w_92 =>
    Ext t63_91 0 fun t64_93 =>
    Ext t63_91 1 fun t65_94 =>
    Do Try.prog (Instr.alloc 67 true (.tuple #[])) w_92 fun m_9_95 w_96 =>
    DoU Try.prog (Instr.storeAt 67 m_9_95 t64_93) w_96 fun u_97 w_98 =>
    ∃ S_99 : World → Prop, S_99 (World.drew w_98) ∧
    LdA S_99 6 m_9_95 fun t67_100 =>
    NilC x0 fun t69_101 =>
    FAd 1 t69_101 fun t70_102 =>
    LdC S_99 t70_102 fun t71_103 =>
    FAd 1 o_3_1 fun t72_104 =>
    LdC S_99 t72_104 fun t73_105 =>
    FAd 2 o_3_1 fun t74_106 =>
    LdC S_99 t74_106 fun t75_107 =>
    FAd 4 o_3_1 fun t76_108 =>
    LdC S_99 t76_108 fun t77_109 =>
    CallF Try.prog 36 #[t71_103, t73_105, t75_107, t77_109] (World.drew w_98) fun t78_110 w_111 =>
    S_99 w_111 ∧
    CallF Try.prog 82 #[x0, t67_100, t78_110, t65_94, (.bool false)] w_111 fun t80_112 w_113 =>
    S_99 w_113 ∧
    J_81 t80_112 w_113) (
    Bin Try.prog (At w_17) .eql 3 false true t28_19 (.int .i64 2) fun t82_114 =>
    ∃ J_115 : Value → World → Prop,
    (∀ ok_6_116, ∀ w_117, J_115 ok_6_116 w_117 → (
     J_81 ok_6_116 w_117)) ∧
    If t82_114 (
     LdA (At w_17) 6 last_5_14 fun t84_118 =>
     FAd 1 o_3_1 fun t85_119 =>
     LdC (At w_17) t85_119 fun t86_120 =>
     FAd 2 o_3_1 fun t87_121 =>
     LdC (At w_17) t87_121 fun t88_122 =>
     FAd 4 o_3_1 fun t89_123 =>
     LdC (At w_17) t89_123 fun t90_124 =>
     CallF Try.prog 84 #[t84_118, t86_120, t88_122, t90_124] w_17 fun t91_125 w_126 =>
     Ext t91_125 0 fun t92_127 =>
     Ext t91_125 1 fun t93_128 =>
     Do Try.prog (Instr.alloc 67 true (.tuple #[])) w_126 fun m_11_129 w_130 =>
     DoU Try.prog (Instr.storeAt 67 m_11_129 t92_127) w_130 fun u_131 w_132 =>
     ∃ S_133 : World → Prop, S_133 (World.drew w_132) ∧
     LdA S_133 6 m_11_129 fun t95_134 =>
     NilC x0 fun t97_135 =>
     FAd 1 t97_135 fun t98_136 =>
     LdC S_133 t98_136 fun t99_137 =>
     FAd 1 o_3_1 fun t100_138 =>
     LdC S_133 t100_138 fun t101_139 =>
     FAd 2 o_3_1 fun t102_140 =>
     LdC S_133 t102_140 fun t103_141 =>
     FAd 4 o_3_1 fun t104_142 =>
     LdC S_133 t104_142 fun t105_143 =>
     CallF Try.prog 45 #[t99_137, t101_139, t103_141, t105_143] (World.drew w_132) fun t106_144 w_145 =>
     S_133 w_145 ∧
     CallF Try.prog 82 #[x0, t95_134, t106_144, t93_128, (.bool true)] w_145 fun t108_146 w_147 =>
     S_133 w_147 ∧
     J_115 t108_146 w_147) (
     Bin Try.prog (At w_17) .eql 3 false true t28_19 (.int .i64 3) fun t110_148 =>
     ∃ J_149 : Value → World → Prop,
     (∀ ok_6_150, ∀ w_151, J_149 ok_6_150 w_151 → (
      J_115 ok_6_150 w_151)) ∧
     If t110_148 (
      NilC x0 fun t112_152 =>
      FAd 1 t112_152 fun t113_153 =>
      LdC (At w_17) t113_153 fun t114_154 =>
      CallF Try.prog 38 #[t114_154] w_17 fun t115_155 w_156 =>
      Bin Try.prog (At w_156) .eql 27 false true t115_155 (.int .i64 0) fun t116_157 =>
      ∃ S_158 : World → Prop, S_158 (World.drew w_156) ∧
      NilC x0 fun t119_159 =>
      FAd 2 t119_159 fun t120_160 =>
      LdC S_158 t120_160 fun t121_161 =>
      NilC x0 fun t123_162 =>
      FAd 2 t123_162 fun t124_163 =>
      LdC S_158 t124_163 fun t125_164 =>
      Len t125_164 fun t126_165 =>
      Bin Try.prog S_158 .sub 3 false true t126_165 (.int .i64 1) fun t127_166 =>
      SlcS 6 t121_161 (some t127_166) none none fun t128_167 =>
      NilC x0 fun t129_168 =>
      FAd 2 t129_168 fun t130_169 =>
      DoU Try.prog (Instr.storeAt 58 t130_169 t128_167) (World.drew w_156) fun u_170 w_171 =>
      J_149 t116_157 w_171) (
      Bin Try.prog (At w_17) .eql 3 false true t28_19 (.int .i64 4) fun t132_172 =>
      ∃ J_173 : Value → World → Prop,
      (∀ ok_6_174, ∀ w_175, J_173 ok_6_174 w_175 → (
       J_149 ok_6_174 w_175)) ∧
      If t132_172 (
       FAd 3 o_3_1 fun t134_176 =>
       LdC (At w_17) t134_176 fun t135_177 =>
       Pu Try.prog (At w_17) (Builtin.max_ #[3, 3] 3 #[t135_177, (.int .i64 0)]) fun t136_178 =>
       CallF Try.prog 43 #[x0, t136_178] w_17 fun t137_179 w_180 =>
       J_173 t137_179 w_180) (
       J_173 (.bool true) w_17)))))
theorem C_furlonglaw16_desk_do_ent : Ent Try.prog 42 := ⟨_, Try.func42, by decide, rfl⟩
theorem C_furlonglaw16_desk_do_eq {x0 x1 : Value} {w : World} {R : Value → World → Prop} : (C_furlonglaw16_desk_do x0 x1 w R) = vFun Try.prog Try.f42 [0, 1, 3, 4, 5, 6, 7, 8, 9, 10, 11, 12, 13, 14, 28, 29, 53, 81, 109, 131] [x0, x1] w R := by kernel_rfl
theorem C_furlonglaw16_desk_do_link {x0 x1 : Value} {w : World} {R : Value → World → Prop} (h : C_furlonglaw16_desk_do x0 x1 w R) : CallF Try.prog 42 #[x0, x1] w R :=
  callF_eq (fn := Try.f42) (L := [0, 1, 3, 4, 5, 6, 7, 8, 9, 10, 11, 12, 13, 14, 28, 29, 53, 81, 109, 131]) (args := [x0, x1]) C_furlonglaw16_desk_do_ent Try.func42 (by kernel_rfl) C_furlonglaw16_desk_do_eq h

/-- (*furlong/furlonglaw16.desk).crash: function 43 -/
def C_furlonglaw16_desk_crash (x0 : Value) (x1 : Value) (w : World) (R : Value → World → Prop) : Prop :=
  NilC x0 fun t12_1 =>
  FAd 0 t12_1 fun t13_2 =>
  LdC (At w) t13_2 fun t14_3 =>
  CallF Try.prog 39 #[t14_3, x1] w fun t16_4 w_5 =>
  Bin Try.prog (At w_5) .neq 27 false true t16_4 (.int .i64 0) fun t17_6 =>
  If t17_6 (
   R (.bool false) w_5) (
   NilC x0 fun t20_7 =>
   FAd 0 t20_7 fun t21_8 =>
   LdC (At w_5) t21_8 fun t22_9 =>
   CallF Try.prog 40 #[t22_9] w_5 fun t23_10 w_11 =>
   Ext t23_10 0 fun t24_12 =>
   Ext t23_10 1 fun t25_13 =>
   Bin Try.prog (At w_11) .neq 27 false true t25_13 (.int .i64 0) fun t27_14 =>
   GdP (isB t27_14 false) (fun R => R t24_12) fun t29_15 =>
   GdP (isB t27_14 false) (fun R => Bin Try.prog (At w_11) .eql 57 false true t29_15 (.pointer none) R) fun t30_16 =>
   Pick t27_14 (.bool true) t30_16 fun t31_17 =>
   If t31_17 (
    R (.bool false) w_11) (
    CallF Try.prog 37 #[t24_12] w_11 fun t34_18 w_19 =>
    Ext t34_18 0 fun t35_20 =>
    Ext t34_18 1 fun t36_21 =>
    Do Try.prog (Instr.alloc 67 true (.tuple #[])) w_19 fun m_7_22 w_23 =>
    DoU Try.prog (Instr.storeAt 67 m_7_22 t35_20) w_23 fun u_24 w_25 =>
    NilC x0 fun t38_26 =>
    FAd 2 t38_26 fun t39_27 =>
    LdC (At w_25) t39_27 fun t40_28 =>
    Len t40_28 fun t41_29 =>
    ∃ (I_30 : Nat → Value → Value → World → Prop) (m_31 : Nat), I_30 m_31 (.bool false) (.int .i64 0) w_25 ∧
    ∀ m_32, ∀ t4_33, ∀ t42_34, ∀ w_35, I_30 m_32 t4_33 t42_34 w_35 →
     Bin Try.prog (At w_35) .lss 3 false false t42_34 t41_29 fun t43_36 =>
     If t43_36 (
      IAdS 6 t40_28 t42_34 fun t44_37 =>
      LdA (At w_35) 6 t44_37 fun t45_38 =>
      Do Try.prog (Instr.alloc 67 true (.tuple #[])) w_35 fun l_10_39 w_40 =>
      DoU Try.prog (Instr.storeAt 67 l_10_39 t45_38) w_40 fun u_41 w_42 =>
      GdP (isB t36_21 true) (fun R => LdA (At w_42) 6 l_10_39 R) fun t48_43 =>
      GdP (isB t36_21 true) (fun R => LdA (At w_42) 6 m_7_22 R) fun t49_44 =>
      Gd (isB t36_21 true) (fun R => CallF Try.prog 41 #[t48_43, t49_44] w_42 R) w_42 fun t50_45 w_46 =>
      Pick t36_21 t50_45 (.bool false) fun t51_47 =>
      If t51_47 (
       ∃ J_49 : World → Prop,
       (∀ w_50, J_49 w_50 → (
        R (.bool true) w_50)) ∧
       ∃ S_48 : World → Prop, S_48 (World.drew w_46) ∧
       LdA S_48 6 m_7_22 fun t55_51 =>
       NilC x0 fun t57_52 =>
       FAd 1 t57_52 fun t58_53 =>
       (
        Do Try.prog (Instr.buildSlice 58 1 #[(0, t55_51)]) (World.drew w_46) fun t56_54 w_55 =>
        DoU Try.prog (Instr.storeAt 57 t58_53 t24_12) w_55 fun u_56 w_57 =>
        S_48 w_57 ∧
        NilC x0 fun t59_58 =>
        FAd 2 t59_58 fun t60_59 =>
        DoU Try.prog (Instr.storeAt 58 t60_59 t56_54) w_57 fun u_60 w_61 =>
        J_49 w_61) ∧
       (
        DoU Try.prog (Instr.storeAt 57 t58_53 t24_12) (World.drew w_46) fun u_62 w_63 =>
        S_48 w_63 ∧
        Do Try.prog (Instr.buildSlice 58 1 #[(0, t55_51)]) w_63 fun t56_64 w_65 =>
        NilC x0 fun t59_66 =>
        FAd 2 t59_66 fun t60_67 =>
        DoU Try.prog (Instr.storeAt 58 t60_67 t56_64) w_65 fun u_68 w_69 =>
        J_49 w_69)) (
       Bin Try.prog (At w_46) .add 3 false true t42_34 (.int .i64 1) fun t61_70 =>
       ∃ m_71, m_71 < m_32 ∧
       I_30 m_71 t4_33 t61_70 w_46)) (
      R (.bool false) w_35)))
theorem C_furlonglaw16_desk_crash_ent : Ent Try.prog 43 := ⟨_, Try.func43, by decide, rfl⟩
theorem C_furlonglaw16_desk_crash_eq {x0 x1 : Value} {w : World} {R : Value → World → Prop} : (C_furlonglaw16_desk_crash x0 x1 w R) = vFun Try.prog Try.f43 [0, 1, 4, 5, 6, 7, 8, 10, 17, 31, 40, 41, 42, 43, 51] [x0, x1] w R := by kernel_rfl
theorem C_furlonglaw16_desk_crash_link {x0 x1 : Value} {w : World} {R : Value → World → Prop} (h : C_furlonglaw16_desk_crash x0 x1 w R) : CallF Try.prog 43 #[x0, x1] w R :=
  callF_eq (fn := Try.f43) (L := [0, 1, 4, 5, 6, 7, 8, 10, 17, 31, 40, 41, 42, 43, 51]) (args := [x0, x1]) C_furlonglaw16_desk_crash_ent Try.func43 (by kernel_rfl) C_furlonglaw16_desk_crash_eq h

/-- (*furlong/keep.Keep).Last: function 44 -/
def C_keep_Keep_Last (x0 : Value) (w : World) (R : Value → World → Prop) : Prop :=
  Bin Try.prog (At w) .eql 57 false true x0 (.pointer none) fun t4_1 =>
  If t4_1 (
   R (.int .i64 0) w) (
   ∃ S_2 : World → Prop, S_2 (World.drew w) ∧
   NilC x0 fun t6_3 =>
   FAd 3 t6_3 fun t7_4 =>
   LdC S_2 t7_4 fun t8_5 =>
   NilC x0 fun t10_6 =>
   FAd 6 t10_6 fun t11_7 =>
   LdC S_2 t11_7 fun t12_8 =>
   Len t12_8 fun t13_9 =>
   Bin Try.prog S_2 .add 3 false false t8_5 t13_9 fun t14_10 =>
   R t14_10 (World.drew w))
theorem C_keep_Keep_Last_ent : Ent Try.prog 44 := ⟨_, Try.func44, by decide, rfl⟩
theorem C_keep_Keep_Last_eq {x0 : Value} {w : World} {R : Value → World → Prop} : (C_keep_Keep_Last x0 w R) = vFun Try.prog Try.f44 [0, 2, 4] [x0] w R := by kernel_rfl
theorem C_keep_Keep_Last_link {x0 : Value} {w : World} {R : Value → World → Prop} (h : C_keep_Keep_Last x0 w R) : CallF Try.prog 44 #[x0] w R :=
  callF_eq (fn := Try.f44) (L := [0, 2, 4]) (args := [x0]) C_keep_Keep_Last_ent Try.func44 (by kernel_rfl) C_keep_Keep_Last_eq h

/-- (*furlong/keep.Keep).Reset: function 45 -/
def C_keep_Keep_Reset (x0 : Value) (x1 : Value) (x2 : Value) (x3 : Value) (w : World) (R : Value → World → Prop) : Prop :=
  Bin Try.prog (At w) .eql 57 false true x0 (.pointer none) fun t13_1 =>
  If t13_1 (
   R (.int .i64 17) w) (
   NilC x0 fun t17_2 =>
   FAd 3 t17_2 fun t18_3 =>
   LdC (At w) t18_3 fun t19_4 =>
   Bin Try.prog (At w) .leq 3 false false x1 t19_4 fun t20_5 =>
   GdP (isB t20_5 false) (fun R => R x1) fun t22_6 =>
   GdP (isB t20_5 false) (fun R => Bin Try.prog (At w) .gtr 3 false true t22_6 (.int .i64 1152921504606846976) R) fun t23_7 =>
   Pick t20_5 (.bool true) t23_7 fun t24_8 =>
   GdP (isB t24_8 false) (fun R => R x2) fun t26_9 =>
   GdP (isB t24_8 false) (fun R => Bin Try.prog (At w) .lss 3 false true t26_9 (.int .i64 0) R) fun t27_10 =>
   Pick t24_8 (.bool true) t27_10 fun t28_11 =>
   If t28_11 (
    R (.int .i64 1) w) (
    Len x3 fun t31_12 =>
    Bin Try.prog (At w) .gtr 3 false true t31_12 (.int .i64 262144) fun t32_13 =>
    If t32_13 (
     R (.int .i64 3) w) (
     ∃ J_15 : Value → World → Prop,
     (∀ n_9_16, ∀ w_17, J_15 n_9_16 w_17 → (
      ∃ S_18 : World → Prop, S_18 (World.drew w_17) ∧
      CallF Try.prog 44 #[x0] (World.drew w_17) fun t53_19 w_20 =>
      S_18 w_20 ∧
      Bin Try.prog S_18 .leq 3 false false x1 t53_19 fun t54_21 =>
      GdP (isB t54_21 true) (fun R => R x0) fun t56_22 =>
      GdP (isB t54_21 true) (fun R => NilC t56_22 R) fun t57_23 =>
      GdP (isB t54_21 true) (fun R => FAd 6 t57_23 R) fun t58_24 =>
      GdP (isB t54_21 true) (fun R => LdC S_18 t58_24 R) fun t59_25 =>
      GdP (isB t54_21 true) (fun R => R x1) fun t60_26 =>
      GdP (isB t54_21 true) (fun R => R x0) fun t61_27 =>
      GdP (isB t54_21 true) (fun R => NilC t61_27 R) fun t62_28 =>
      GdP (isB t54_21 true) (fun R => FAd 3 t62_28 R) fun t63_29 =>
      GdP (isB t54_21 true) (fun R => LdC S_18 t63_29 R) fun t64_30 =>
      GdP (isB t54_21 true) (fun R => Bin Try.prog S_18 .sub 3 false false t60_26 t64_30 R) fun t65_31 =>
      GdP (isB t54_21 true) (fun R => Bin Try.prog S_18 .sub 3 false true t65_31 (.int .i64 1) R) fun t66_32 =>
      GdP (isB t54_21 true) (fun R => IAdS 2 t59_25 t66_32 R) fun t67_33 =>
      GdP (isB t54_21 true) (fun R => FAd 0 t67_33 R) fun t68_34 =>
      GdP (isB t54_21 true) (fun R => LdC S_18 t68_34 R) fun t69_35 =>
      GdP (isB t54_21 true) (fun R => R x2) fun t70_36 =>
      GdP (isB t54_21 true) (fun R => Bin Try.prog S_18 .eql 3 false false t69_35 t70_36 R) fun t71_37 =>
      Pick t54_21 t71_37 (.bool false) fun t72_38 =>
      ∃ J_39 : List Nat → World → Prop,
      (∀ ds_40 : List Nat, ∀ w_41, J_39 ds_40 w_41 → (
       ∃ S_42 : World → Prop, S_42 (World.drew w_41) ∧
       NilC x0 fun t88_43 =>
       FAd 0 t88_43 fun t89_44 =>
       LdC S_42 t89_44 fun t90_45 =>
       LdC S_42 n_9_16 fun t91_46 =>
       CallF Try.prog 86 #[t91_46] (World.drew w_41) fun t92_47 w_48 =>
       S_42 w_48 ∧
       CallF Try.prog 20 #[t90_45, t92_47] w_48 fun t93_49 w_50 =>
       S_42 w_50 ∧
       Bin Try.prog S_42 .neq 27 false true t93_49 (.int .i64 0) fun t94_51 =>
       If t94_51 (
        leave ds_40 w_50 fun w_52 =>
        R (.int .i64 10) w_52) (
        LdC (At w_50) n_9_16 fun t96_53 =>
        NilC t96_53 fun t97_54 =>
        LdA (At w_50) 7 t97_54 fun t98_55 =>
        NilC x0 fun t99_56 =>
        DoU Try.prog (Instr.storeAt 137 t99_56 t98_55) w_50 fun u_57 w_58 =>
        leave ds_40 w_58 fun w_59 =>
        R (.int .i64 0) w_59))) ∧
      If t72_38 (
       CallF Try.prog 85 #[x0, x1] w_20 fun t75_60 w_61 =>
       ∀ r_62 : Go.Loop, (∀ a_63, ∀ (w_64 : World) (k_65 : Value → World → Prop), w_64.heap[w_61.heap.size + 1]? = some (LO r_62 .ready none) → (
        Do Try.prog (Instr.alloc 141 true (.tuple #[])) w_64 fun e_10_66 w_67 =>
        DoU Try.prog (Instr.storeAt 141 e_10_66 a_63) w_67 fun u_68 w_69 =>
        w_69.heap[w_61.heap.size + 1]? = some (LO r_62 .ready none) ∧
        ∃ S_70 : World → Prop, S_70 (World.drew (setO w_69 (w_61.heap.size + 1) (LO r_62 .busy none))) ∧
        LdC S_70 n_9_16 fun t77_71 =>
        LdC S_70 n_9_16 fun t78_72 =>
        NilC t78_72 fun t79_73 =>
        FAd 6 t79_73 fun t80_74 =>
        LdC S_70 t80_74 fun t81_75 =>
        LdA S_70 2 e_10_66 fun t82_76 =>
        Do Try.prog (Instr.buildSlice 135 1 #[(0, t82_76)]) (World.drew (setO w_69 (w_61.heap.size + 1) (LO r_62 .busy none))) fun t83_77 w_78 =>
        S_70 w_78 ∧
        Do Try.prog (Builtin.append_ #[135, 135] 135 #[t81_75, t83_77]) w_78 fun t84_79 w_80 =>
        S_70 w_80 ∧
        NilC t77_71 fun t85_81 =>
        FAd 6 t85_81 fun t86_82 =>
        DoU Try.prog (Instr.storeAt 135 t86_82 t84_79) w_80 fun u_83 w_84 =>
        w_84.heap[w_61.heap.size + 1]? = some (LO r_62 .busy none) ∧
        k_65 (.bool true) (setO w_84 (w_61.heap.size + 1) (LO r_62 .ready none))) → CallV Try.prog (yv (w_61.heap.size + 1)) #[a_63] w_64 k_65) →
       CallE Try.prog t75_60 #[yv (w_61.heap.size + 1)] (loopW w_61 r_62) fun _ w_85 =>
        (∃ st_86, w_85.heap[w_61.heap.size + 1]? = some (LO r_62 st_86 none) ∧ st_86 ≠ .busy ∧
         J_39 [w_61.heap.size] (setO w_85 (w_61.heap.size + 1) (LO r_62 .exhausted none)))) (
       J_39 [] w_20))) ∧
     ∃ S_14 : World → Prop, S_14 (World.drew w) ∧
     NilC x0 fun t34_87 =>
     FAd 0 t34_87 fun t35_88 =>
     LdC S_14 t35_88 fun t36_89 =>
     NilC x0 fun t38_90 =>
     FAd 1 t38_90 fun t39_91 =>
     LdC S_14 t39_91 fun t40_92 =>
     NilC x0 fun t42_93 =>
     FAd 2 t42_93 fun t43_94 =>
     LdC S_14 t43_94 fun t44_95 =>
     (
      Do Try.prog (Builtin.append_ #[24, 24] 24 #[(.slice none 0 0), x3]) (World.drew w) fun t48_96 w_97 =>
      S_14 w_97 ∧
      Bld Try.prog 137 [(0, t36_89), (1, t40_92), (2, t44_95), (3, x1), (4, x2), (5, t48_96)] fun t49_98 =>
      (
       Do Try.prog (Instr.box 137 t49_98) w_97 fun t50_99 w_100 =>
       S_14 w_100 ∧
       Do Try.prog (Instr.alloc 57 true (.tuple #[])) w_100 fun n_9_101 w_102 =>
       S_14 w_102 ∧
       DoU Try.prog (Instr.storeAt 57 n_9_101 t50_99) w_102 fun u_103 w_104 =>
      J_15 n_9_101 w_104) ∧
      (
       Do Try.prog (Instr.alloc 57 true (.tuple #[])) w_97 fun n_9_105 w_106 =>
       S_14 w_106 ∧
       Do Try.prog (Instr.box 137 t49_98) w_106 fun t50_107 w_108 =>
       S_14 w_108 ∧
       DoU Try.prog (Instr.storeAt 57 n_9_105 t50_107) w_108 fun u_109 w_110 =>
      J_15 n_9_105 w_110)) ∧
     (
      Do Try.prog (Instr.alloc 57 true (.tuple #[])) (World.drew w) fun n_9_111 w_112 =>
      S_14 w_112 ∧
      Do Try.prog (Builtin.append_ #[24, 24] 24 #[(.slice none 0 0), x3]) w_112 fun t48_113 w_114 =>
      S_14 w_114 ∧
      Bld Try.prog 137 [(0, t36_89), (1, t40_92), (2, t44_95), (3, x1), (4, x2), (5, t48_113)] fun t49_115 =>
      Do Try.prog (Instr.box 137 t49_115) w_114 fun t50_116 w_117 =>
      S_14 w_117 ∧
      DoU Try.prog (Instr.storeAt 57 n_9_111 t50_116) w_117 fun u_118 w_119 =>
      J_15 n_9_111 w_119))))
theorem C_keep_Keep_Reset_ent : Ent Try.prog 45 := ⟨_, Try.func45, by decide, rfl⟩
theorem C_keep_Keep_Reset_eq {x0 x1 x2 x3 : Value} {w : World} {R : Value → World → Prop} : (C_keep_Keep_Reset x0 x1 x2 x3 w R) = vFun Try.prog Try.f45 [0, 1, 2, 3, 8, 9, 10, 11, 14, 29, 72, 75, 76, 94] [x0, x1, x2, x3] w R := by kernel_rfl
theorem C_keep_Keep_Reset_link {x0 x1 x2 x3 : Value} {w : World} {R : Value → World → Prop} (h : C_keep_Keep_Reset x0 x1 x2 x3 w R) : CallF Try.prog 45 #[x0, x1, x2, x3] w R :=
  callF_eq (fn := Try.f45) (L := [0, 1, 2, 3, 8, 9, 10, 11, 14, 29, 72, 75, 76, 94]) (args := [x0, x1, x2, x3]) C_keep_Keep_Reset_ent Try.func45 (by kernel_rfl) C_keep_Keep_Reset_eq h

/-- (*furlong/keep.Keep).Base: function 46 -/
def C_keep_Keep_Base (x0 : Value) (w : World) (R : Value → World → Prop) : Prop :=
  Bin Try.prog (At w) .eql 57 false true x0 (.pointer none) fun t6_1 =>
  If t6_1 (
   R (.tuple #[(.int .i64 0), (.int .i64 0), (.slice none 0 0)]) w) (
   ∃ S_2 : World → Prop, S_2 (World.drew w) ∧
   NilC x0 fun t8_3 =>
   FAd 3 t8_3 fun t9_4 =>
   LdC S_2 t9_4 fun t10_5 =>
   NilC x0 fun t12_6 =>
   FAd 4 t12_6 fun t13_7 =>
   LdC S_2 t13_7 fun t14_8 =>
   NilC x0 fun t16_9 =>
   FAd 5 t16_9 fun t17_10 =>
   LdC S_2 t17_10 fun t18_11 =>
   Do Try.prog (Builtin.append_ #[24, 24] 24 #[(.slice none 0 0), t18_11]) (World.drew w) fun t19_12 w_13 =>
   S_2 w_13 ∧
   R (.tuple #[t10_5, t14_8, t19_12]) w_13)
theorem C_keep_Keep_Base_ent : Ent Try.prog 46 := ⟨_, Try.func46, by decide, rfl⟩
theorem C_keep_Keep_Base_eq {x0 : Value} {w : World} {R : Value → World → Prop} : (C_keep_Keep_Base x0 w R) = vFun Try.prog Try.f46 [0, 2, 3, 4, 6] [x0] w R := by kernel_rfl
theorem C_keep_Keep_Base_link {x0 : Value} {w : World} {R : Value → World → Prop} (h : C_keep_Keep_Base x0 w R) : CallF Try.prog 46 #[x0] w R :=
  callF_eq (fn := Try.f46) (L := [0, 2, 3, 4, 6]) (args := [x0]) C_keep_Keep_Base_ent Try.func46 (by kernel_rfl) C_keep_Keep_Base_eq h

/-- (*furlong/keep.Keep).Entry: function 47 -/
def C_keep_Keep_Entry (x0 : Value) (x1 : Value) (w : World) (R : Value → World → Prop) : Prop :=
  Bin Try.prog (At w) .eql 57 false true x0 (.pointer none) fun t10_1 =>
  If t10_1 (
   R (.tuple #[(.int .i64 0), (.slice none 0 0), (.int .i64 17)]) w) (
   NilC x0 fun t14_2 =>
   FAd 3 t14_2 fun t15_3 =>
   LdC (At w) t15_3 fun t16_4 =>
   Bin Try.prog (At w) .leq 3 false false x1 t16_4 fun t17_5 =>
   GdP (isB t17_5 false) (fun R => R x1) fun t19_6 =>
   GdP (isB t17_5 false) (fun R => R x0) fun t20_7 =>
   Gd (isB t17_5 false) (fun R => CallF Try.prog 44 #[t20_7] w R) w fun t21_8 w_9 =>
   GdP (isB t17_5 false) (fun R => Bin Try.prog (At w_9) .gtr 3 false false t19_6 t21_8 R) fun t22_10 =>
   Pick t17_5 (.bool true) t22_10 fun t23_11 =>
   If t23_11 (
    R (.tuple #[(.int .i64 0), (.slice none 0 0), (.int .i64 8)]) w_9) (
    ∃ S_12 : World → Prop, S_12 (World.drew w_9) ∧
    NilC x0 fun t25_13 =>
    FAd 6 t25_13 fun t26_14 =>
    LdC S_12 t26_14 fun t27_15 =>
    NilC x0 fun t30_16 =>
    FAd 3 t30_16 fun t31_17 =>
    LdC S_12 t31_17 fun t32_18 =>
    Bin Try.prog S_12 .sub 3 false false x1 t32_18 fun t33_19 =>
    Bin Try.prog S_12 .sub 3 false true t33_19 (.int .i64 1) fun t34_20 =>
    IAdS 2 t27_15 t34_20 fun t35_21 =>
    LdA S_12 2 t35_21 fun t36_22 =>
    Do Try.prog (Instr.alloc 141 true (.tuple #[])) (World.drew w_9) fun e_7_23 w_24 =>
    S_12 w_24 ∧
    DoU Try.prog (Instr.storeAt 141 e_7_23 t36_22) w_24 fun u_25 w_26 =>
    ∃ S_27 : World → Prop, S_27 (World.drew w_26) ∧
    FAd 0 e_7_23 fun t37_28 =>
    LdC S_27 t37_28 fun t38_29 =>
    FAd 1 e_7_23 fun t39_30 =>
    LdC S_27 t39_30 fun t40_31 =>
    Do Try.prog (Builtin.append_ #[24, 24] 24 #[(.slice none 0 0), t40_31]) (World.drew w_26) fun t41_32 w_33 =>
    S_27 w_33 ∧
    R (.tuple #[t38_29, t41_32, (.int .i64 0)]) w_33))
theorem C_keep_Keep_Entry_ent : Ent Try.prog 47 := ⟨_, Try.func47, by decide, rfl⟩
theorem C_keep_Keep_Entry_eq {x0 x1 : Value} {w : World} {R : Value → World → Prop} : (C_keep_Keep_Entry x0 x1 w R) = vFun Try.prog Try.f47 [0, 1, 4, 5, 6, 7, 8, 11] [x0, x1] w R := by kernel_rfl
theorem C_keep_Keep_Entry_link {x0 x1 : Value} {w : World} {R : Value → World → Prop} (h : C_keep_Keep_Entry x0 x1 w R) : CallF Try.prog 47 #[x0, x1] w R :=
  callF_eq (fn := Try.f47) (L := [0, 1, 4, 5, 6, 7, 8, 11]) (args := [x0, x1]) C_keep_Keep_Entry_ent Try.func47 (by kernel_rfl) C_keep_Keep_Entry_eq h

/-- (*furlong/keep.Keep).Term: function 48 -/
def C_keep_Keep_Term (x0 : Value) (w : World) (R : Value → World → Prop) : Prop :=
  Bin Try.prog (At w) .eql 57 false true x0 (.pointer none) fun t4_1 =>
  If t4_1 (
   R (.int .i64 0) w) (
   NilC x0 fun t6_2 =>
   FAd 1 t6_2 fun t7_3 =>
   LdC (At w) t7_3 fun t8_4 =>
   R t8_4 w)
theorem C_keep_Keep_Term_ent : Ent Try.prog 48 := ⟨_, Try.func48, by decide, rfl⟩
theorem C_keep_Keep_Term_eq {x0 : Value} {w : World} {R : Value → World → Prop} : (C_keep_Keep_Term x0 w R) = vFun Try.prog Try.f48 [0, 2, 4] [x0] w R := by kernel_rfl
theorem C_keep_Keep_Term_link {x0 : Value} {w : World} {R : Value → World → Prop} (h : C_keep_Keep_Term x0 w R) : CallF Try.prog 48 #[x0] w R :=
  callF_eq (fn := Try.f48) (L := [0, 2, 4]) (args := [x0]) C_keep_Keep_Term_ent Try.func48 (by kernel_rfl) C_keep_Keep_Term_eq h

/-- (*furlong/keep.Keep).Voted: function 49 -/
def C_keep_Keep_Voted (x0 : Value) (w : World) (R : Value → World → Prop) : Prop :=
  Bin Try.prog (At w) .eql 57 false true x0 (.pointer none) fun t4_1 =>
  If t4_1 (
   R (.int .i64 0) w) (
   NilC x0 fun t6_2 =>
   FAd 2 t6_2 fun t7_3 =>
   LdC (At w) t7_3 fun t8_4 =>
   R t8_4 w)
theorem C_keep_Keep_Voted_ent : Ent Try.prog 49 := ⟨_, Try.func49, by decide, rfl⟩
theorem C_keep_Keep_Voted_eq {x0 : Value} {w : World} {R : Value → World → Prop} : (C_keep_Keep_Voted x0 w R) = vFun Try.prog Try.f49 [0, 2, 4] [x0] w R := by kernel_rfl
theorem C_keep_Keep_Voted_link {x0 : Value} {w : World} {R : Value → World → Prop} (h : C_keep_Keep_Voted x0 w R) : CallF Try.prog 49 #[x0] w R :=
  callF_eq (fn := Try.f49) (L := [0, 2, 4]) (args := [x0]) C_keep_Keep_Voted_ent Try.func49 (by kernel_rfl) C_keep_Keep_Voted_eq h

/-- furlong/furlongref16.New: function 75 -/
def C_furlongref16_New (w : World) (R : Value → World → Prop) : Prop :=
  Do Try.prog (Instr.alloc 67 true (.tuple #[])) w fun t0_1 w_2 =>
  Bld Try.prog 67 [(1, (.int .i64 (-1)))] fun t1_3 =>
  DoU Try.prog (Instr.storeAt 67 t0_1 t1_3) w_2 fun u_4 w_5 =>
  LdA (At w_5) 6 t0_1 fun r_6 =>
  R r_6 w_5
theorem C_furlongref16_New_ent : Ent Try.prog 75 := ⟨_, Try.func75, by decide, rfl⟩
theorem C_furlongref16_New_eq {w : World} {R : Value → World → Prop} : (C_furlongref16_New w R) = vFun Try.prog Try.f75 [0] [] w R := by kernel_rfl
theorem C_furlongref16_New_link {w : World} {R : Value → World → Prop} (h : C_furlongref16_New w R) : CallF Try.prog 75 #[] w R :=
  callF_eq (fn := Try.f75) (L := [0]) (args := []) C_furlongref16_New_ent Try.func75 (by kernel_rfl) C_furlongref16_New_eq h

/-- (*furlong/keep.Keep).append: function 76 -/
def C_keep_Keep_append (x0 : Value) (x1 : Value) (w : World) (R : Value → World → Prop) : Prop :=
  NilC x0 fun t7_1 =>
  FAd 0 t7_1 fun t8_2 =>
  LdC (At w) t8_2 fun t9_3 =>
  CallF Try.prog 19 #[t9_3, x1] w fun t11_4 w_5 =>
  Bin Try.prog (At w_5) .neq 27 false true t11_4 (.int .i64 10) fun t13_6 =>
  If t13_6 (
   R t11_4 w_5) (
   ∃ S_7 : World → Prop, S_7 (World.drew w_5) ∧
   NilC x0 fun t16_8 =>
   FAd 0 t16_8 fun t17_9 =>
   LdC S_7 t17_9 fun t18_10 =>
   CallF Try.prog 86 #[x0] (World.drew w_5) fun t20_11 w_12 =>
   S_7 w_12 ∧
   CallF Try.prog 20 #[t18_10, t20_11] w_12 fun t21_13 w_14 =>
   S_7 w_14 ∧
   Bin Try.prog S_7 .neq 27 false true t21_13 (.int .i64 0) fun t22_15 =>
   If t22_15 (
    R t11_4 w_14) (
    NilC x0 fun t25_16 =>
    FAd 0 t25_16 fun t26_17 =>
    LdC (At w_14) t26_17 fun t27_18 =>
    CallF Try.prog 19 #[t27_18, x1] w_14 fun t29_19 w_20 =>
    R t29_19 w_20))
theorem C_keep_Keep_append_ent : Ent Try.prog 76 := ⟨_, Try.func76, by decide, rfl⟩
theorem C_keep_Keep_append_eq {x0 x1 : Value} {w : World} {R : Value → World → Prop} : (C_keep_Keep_append x0 x1 w R) = vFun Try.prog Try.f76 [0, 1, 4, 5, 13, 22] [x0, x1] w R := by kernel_rfl
theorem C_keep_Keep_append_link {x0 x1 : Value} {w : World} {R : Value → World → Prop} (h : C_keep_Keep_append x0 x1 w R) : CallF Try.prog 76 #[x0, x1] w R :=
  callF_eq (fn := Try.f76) (L := [0, 1, 4, 5, 13, 22]) (args := [x0, x1]) C_keep_Keep_append_ent Try.func76 (by kernel_rfl) C_keep_Keep_append_eq h

/-- furlong/keep.ints: function 77 -/
def C_keep_ints (x0 : Value) (x1 : Value) (w : World) (R : Value → World → Prop) : Prop :=
  Len x1 fun t8_1 =>
  ∃ (I_2 : Nat → Value → Value → World → Prop) (m_3 : Nat), I_2 m_3 x0 (.int .i64 0) w ∧
  ∀ m_4, ∀ b_0_5, ∀ t9_6, ∀ w_7, I_2 m_4 b_0_5 t9_6 w_7 →
   Bin Try.prog (At w_7) .lss 3 false false t9_6 t8_1 fun t10_8 =>
   If t10_8 (
    IAdS 1 x1 t9_6 fun t11_9 =>
    LdC (At w_7) t11_9 fun t12_10 =>
    CallF Try.prog 103 #[b_0_5, t12_10] w_7 fun t15_11 w_12 =>
    Bin Try.prog (At w_12) .add 3 false true t9_6 (.int .i64 1) fun t16_13 =>
    ∃ m_14, m_14 < m_4 ∧
    I_2 m_14 t15_11 t16_13 w_12) (
    R b_0_5 w_7)
theorem C_keep_ints_ent : Ent Try.prog 77 := ⟨_, Try.func77, by decide, rfl⟩
theorem C_keep_ints_eq {x0 x1 : Value} {w : World} {R : Value → World → Prop} : (C_keep_ints x0 x1 w R) = vFun Try.prog Try.f77 [0, 1, 4, 6, 7, 8, 9, 10] [x0, x1] w R := by kernel_rfl
theorem C_keep_ints_link {x0 x1 : Value} {w : World} {R : Value → World → Prop} (h : C_keep_ints x0 x1 w R) : CallF Try.prog 77 #[x0, x1] w R :=
  callF_eq (fn := Try.f77) (L := [0, 1, 4, 6, 7, 8, 9, 10]) (args := [x0, x1]) C_keep_ints_ent Try.func77 (by kernel_rfl) C_keep_ints_eq h

/-- furlong/strip.LayBytes: function 78 -/
def C_strip_LayBytes (x0 : Value) (x1 : Value) (w : World) (R : Value → World → Prop) : Prop :=
  Len x1 fun t7_1 =>
  ConvI .u64 t7_1 fun t8_2 =>
  CallF Try.prog 104 #[x0, t8_2] w fun t9_3 w_4 =>
  Do Try.prog (Builtin.append_ #[24, 24] 24 #[t9_3, x1]) w_4 fun t11_5 w_6 =>
  R t11_5 w_6
theorem C_strip_LayBytes_ent : Ent Try.prog 78 := ⟨_, Try.func78, by decide, rfl⟩
theorem C_strip_LayBytes_eq {x0 x1 : Value} {w : World} {R : Value → World → Prop} : (C_strip_LayBytes x0 x1 w R) = vFun Try.prog Try.f78 [0, 1, 4] [x0, x1] w R := by kernel_rfl
theorem C_strip_LayBytes_link {x0 x1 : Value} {w : World} {R : Value → World → Prop} (h : C_strip_LayBytes x0 x1 w R) : CallF Try.prog 78 #[x0, x1] w R :=
  callF_eq (fn := Try.f78) (L := [0, 1, 4]) (args := [x0, x1]) C_strip_LayBytes_ent Try.func78 (by kernel_rfl) C_strip_LayBytes_eq h

/-- (*furlong/keep.Keep).unpack: function 79 -/
def C_keep_Keep_unpack (x0 : Value) (x1 : Value) (w : World) (R : Value → World → Prop) : Prop :=
  Bld Try.prog 173 [(0, x1)] fun t8_1 =>
  Do Try.prog (Instr.box 173 t8_1) w fun t9_2 w_3 =>
  CallF Try.prog 105 #[t9_2] w_3 fun t15_4 w_5 =>
  CallF Try.prog 105 #[t9_2] w_5 fun t17_6 w_7 =>
  CallF Try.prog 105 #[t9_2] w_7 fun t19_8 w_9 =>
  CallF Try.prog 105 #[t9_2] w_9 fun t21_10 w_11 =>
  NilC x0 fun t22_12 =>
  FAd 1 t22_12 fun t23_13 =>
  DoU Try.prog (Instr.storeAt 3 t23_13 t15_4) w_11 fun u_14 w_15 =>
  NilC x0 fun t24_16 =>
  FAd 2 t24_16 fun t25_17 =>
  DoU Try.prog (Instr.storeAt 3 t25_17 t17_6) w_15 fun u_18 w_19 =>
  NilC x0 fun t26_20 =>
  FAd 3 t26_20 fun t27_21 =>
  DoU Try.prog (Instr.storeAt 3 t27_21 t19_8) w_19 fun u_22 w_23 =>
  NilC x0 fun t28_24 =>
  FAd 4 t28_24 fun t29_25 =>
  DoU Try.prog (Instr.storeAt 3 t29_25 t21_10) w_23 fun u_26 w_27 =>
  CallF Try.prog 106 #[t9_2] w_27 fun t32_28 w_29 =>
  NilC x0 fun t33_30 =>
  FAd 5 t33_30 fun t34_31 =>
  DoU Try.prog (Instr.storeAt 24 t34_31 t32_28) w_29 fun u_32 w_33 =>
  CallF Try.prog 105 #[t9_2] w_33 fun t36_34 w_35 =>
  ∃ (I_36 : Nat → Value → World → Prop) (m_37 : Nat), I_36 m_37 t36_34 w_35 ∧
  ∀ m_38, ∀ n_6_39, ∀ w_40, I_36 m_38 n_6_39 w_40 →
   Bin Try.prog (At w_40) .gtr 3 false true n_6_39 (.int .i64 0) fun t38_41 =>
   GdP (isB t38_41 true) (fun R => R t9_2) fun t40_42 =>
   GdP (isB t38_41 true) (fun R => NilC t40_42 R) fun t41_43 =>
   GdP (isB t38_41 true) (fun R => FAd 2 t41_43 R) fun t42_44 =>
   GdP (isB t38_41 true) (fun R => LdC (At w_40) t42_44 R) fun t43_45 =>
   GdP (isB t38_41 true) (fun R => Un Try.prog (At w_40) .not t43_45 R) fun t44_46 =>
   Pick t38_41 t44_46 (.bool false) fun t45_47 =>
   If t45_47 (
    ∃ S_48 : World → Prop, S_48 (World.drew w_40) ∧
    NilC x0 fun t50_49 =>
    FAd 6 t50_49 fun t51_50 =>
    LdC S_48 t51_50 fun t52_51 =>
    CallF Try.prog 105 #[t9_2] (World.drew w_40) fun t54_52 w_53 =>
    S_48 w_53 ∧
    CallF Try.prog 106 #[t9_2] w_53 fun t56_54 w_55 =>
    S_48 w_55 ∧
    Bld Try.prog 141 [(0, t54_52), (1, t56_54)] fun t57_56 =>
    Do Try.prog (Instr.buildSlice 135 1 #[(0, t57_56)]) w_55 fun t58_57 w_58 =>
    S_48 w_58 ∧
    Do Try.prog (Builtin.append_ #[135, 135] 135 #[t52_51, t58_57]) w_58 fun t59_59 w_60 =>
    NilC x0 fun t60_61 =>
    FAd 6 t60_61 fun t61_62 =>
    DoU Try.prog (Instr.storeAt 135 t61_62 t59_59) w_60 fun u_63 w_64 =>
    Bin Try.prog (At w_64) .sub 3 false true n_6_39 (.int .i64 1) fun t47_65 =>
    ∃ m_66, m_66 < m_38 ∧
    I_36 m_66 t47_65 w_64) (
    NilC t9_2 fun t63_67 =>
    FAd 2 t63_67 fun t64_68 =>
    LdC (At w_40) t64_68 fun t65_69 =>
    Un Try.prog (At w_40) .not t65_69 fun t66_70 =>
    GdP (isB t66_70 true) (fun R => R t9_2) fun t68_71 =>
    GdP (isB t66_70 true) (fun R => NilC t68_71 R) fun t69_72 =>
    GdP (isB t66_70 true) (fun R => FAd 1 t69_72 R) fun t70_73 =>
    GdP (isB t66_70 true) (fun R => LdC (At w_40) t70_73 R) fun t71_74 =>
    GdP (isB t66_70 true) (fun R => R x1) fun t72_75 =>
    GdP (isB t66_70 true) (fun R => Len t72_75 R) fun t73_76 =>
    GdP (isB t66_70 true) (fun R => Bin Try.prog (At w_40) .eql 3 false false t71_74 t73_76 R) fun t74_77 =>
    Pick t66_70 t74_77 (.bool false) fun t75_78 =>
    R t75_78 w_40)
theorem C_keep_Keep_unpack_ent : Ent Try.prog 79 := ⟨_, Try.func79, by decide, rfl⟩
theorem C_keep_Keep_unpack_eq {x0 x1 : Value} {w : World} {R : Value → World → Prop} : (C_keep_Keep_unpack x0 x1 w R) = vFun Try.prog Try.f79 [0, 1, 4, 5, 6, 45] [x0, x1] w R := by kernel_rfl
theorem C_keep_Keep_unpack_link {x0 x1 : Value} {w : World} {R : Value → World → Prop} (h : C_keep_Keep_unpack x0 x1 w R) : CallF Try.prog 79 #[x0, x1] w R :=
  callF_eq (fn := Try.f79) (L := [0, 1, 4, 5, 6, 45]) (args := [x0, x1]) C_keep_Keep_unpack_ent Try.func79 (by kernel_rfl) C_keep_Keep_unpack_eq h

/-- (*furlong/keep.Keep).redo: function 80 -/
def C_keep_Keep_redo (x0 : Value) (x1 : Value) (w : World) (R : Value → World → Prop) : Prop :=
  Bld Try.prog 173 [(0, x1)] fun t10_1 =>
  Do Try.prog (Instr.box 173 t10_1) w fun t11_2 w_3 =>
  CallF Try.prog 105 #[t11_2] w_3 fun t13_4 w_5 =>
  CallF Try.prog 105 #[t11_2] w_5 fun t15_6 w_7 =>
  CallF Try.prog 105 #[t11_2] w_7 fun t17_8 w_9 =>
  NilC t11_2 fun t20_10 =>
  FAd 2 t20_10 fun t21_11 =>
  LdC (At w_9) t21_11 fun t22_12 =>
  If t22_12 (
   R (.bool false) w_9) (
   Bin Try.prog (At w_9) .eql 3 false true t13_4 (.int .i64 1) fun t25_13 =>
   ∃ J_14 : Value → World → Prop,
   (∀ t4_15, ∀ w_16, J_14 t4_15 w_16 → (
    NilC t11_2 fun t81_17 =>
    FAd 2 t81_17 fun t82_18 =>
    LdC (At w_16) t82_18 fun t83_19 =>
    Un Try.prog (At w_16) .not t83_19 fun t84_20 =>
    GdP (isB t84_20 true) (fun R => R t11_2) fun t86_21 =>
    GdP (isB t84_20 true) (fun R => NilC t86_21 R) fun t87_22 =>
    GdP (isB t84_20 true) (fun R => FAd 1 t87_22 R) fun t88_23 =>
    GdP (isB t84_20 true) (fun R => LdC (At w_16) t88_23 R) fun t89_24 =>
    GdP (isB t84_20 true) (fun R => R x1) fun t90_25 =>
    GdP (isB t84_20 true) (fun R => Len t90_25 R) fun t91_26 =>
    GdP (isB t84_20 true) (fun R => Bin Try.prog (At w_16) .eql 3 false false t89_24 t91_26 R) fun t92_27 =>
    Pick t84_20 t92_27 (.bool false) fun t93_28 =>
    R t93_28 w_16)) ∧
   If t25_13 (
    NilC x0 fun t30_29 =>
    FAd 1 t30_29 fun t31_30 =>
    DoU Try.prog (Instr.storeAt 3 t31_30 t15_6) w_9 fun u_31 w_32 =>
    NilC x0 fun t32_33 =>
    FAd 2 t32_33 fun t33_34 =>
    DoU Try.prog (Instr.storeAt 3 t33_34 t17_8) w_32 fun u_35 w_36 =>
    J_14 (.bool false) w_36) (
    Bin Try.prog (At w_9) .eql 3 false true t13_4 (.int .i64 2) fun t36_37 =>
    GdP (isB t36_37 true) (fun R => R t15_6) fun t38_38 =>
    GdP (isB t36_37 true) (fun R => R x0) fun t39_39 =>
    GdP (isB t36_37 true) (fun R => NilC t39_39 R) fun t40_40 =>
    GdP (isB t36_37 true) (fun R => FAd 3 t40_40 R) fun t41_41 =>
    GdP (isB t36_37 true) (fun R => LdC (At w_9) t41_41 R) fun t42_42 =>
    GdP (isB t36_37 true) (fun R => Bin Try.prog (At w_9) .gtr 3 false false t38_38 t42_42 R) fun t43_43 =>
    Pick t36_37 t43_43 (.bool false) fun t44_44 =>
    GdP (isB t44_44 true) (fun R => R t15_6) fun t46_45 =>
    GdP (isB t44_44 true) (fun R => R x0) fun t47_46 =>
    Gd (isB t44_44 true) (fun R => CallF Try.prog 44 #[t47_46] w_9 R) w_9 fun t48_47 w_48 =>
    GdP (isB t44_44 true) (fun R => Bin Try.prog (At w_48) .add 3 false true t48_47 (.int .i64 1) R) fun t49_49 =>
    GdP (isB t44_44 true) (fun R => Bin Try.prog (At w_48) .leq 3 false false t46_45 t49_49 R) fun t50_50 =>
    Pick t44_44 t50_50 (.bool false) fun t51_51 =>
    If t51_51 (
     ∃ S_52 : World → Prop, S_52 (World.drew w_48) ∧
     NilC x0 fun t54_53 =>
     FAd 6 t54_53 fun t55_54 =>
     LdC S_52 t55_54 fun t56_55 =>
     NilC x0 fun t59_56 =>
     FAd 3 t59_56 fun t60_57 =>
     LdC S_52 t60_57 fun t61_58 =>
     Bin Try.prog S_52 .sub 3 false false t15_6 t61_58 fun t62_59 =>
     Bin Try.prog S_52 .sub 3 false true t62_59 (.int .i64 1) fun t63_60 =>
     NilC x0 fun t66_61 =>
     FAd 3 t66_61 fun t67_62 =>
     LdC S_52 t67_62 fun t68_63 =>
     Bin Try.prog S_52 .sub 3 false false t15_6 t68_63 fun t69_64 =>
     Bin Try.prog S_52 .sub 3 false true t69_64 (.int .i64 1) fun t70_65 =>
     SlcS 2 t56_55 none (some t63_60) (some t70_65) fun t71_66 =>
     CallF Try.prog 106 #[t11_2] (World.drew w_48) fun t74_67 w_68 =>
     S_52 w_68 ∧
     Bld Try.prog 141 [(0, t17_8), (1, t74_67)] fun t75_69 =>
     Do Try.prog (Instr.buildSlice 135 1 #[(0, t75_69)]) w_68 fun t76_70 w_71 =>
     S_52 w_71 ∧
     Do Try.prog (Builtin.append_ #[135, 135] 135 #[t71_66, t76_70]) w_71 fun t77_72 w_73 =>
     S_52 w_73 ∧
     NilC x0 fun t78_74 =>
     FAd 6 t78_74 fun t79_75 =>
     DoU Try.prog (Instr.storeAt 135 t79_75 t77_72) w_73 fun u_76 w_77 =>
     J_14 (.bool false) w_77) (
     R (.bool false) w_48)))
theorem C_keep_Keep_redo_ent : Ent Try.prog 80 := ⟨_, Try.func80, by decide, rfl⟩
theorem C_keep_Keep_redo_eq {x0 x1 : Value} {w : World} {R : Value → World → Prop} : (C_keep_Keep_redo x0 x1 w R) = vFun Try.prog Try.f80 [0, 1, 4, 5, 6, 7, 8, 18, 23, 34] [x0, x1] w R := by kernel_rfl
theorem C_keep_Keep_redo_link {x0 x1 : Value} {w : World} {R : Value → World → Prop} (h : C_keep_Keep_redo x0 x1 w R) : CallF Try.prog 80 #[x0, x1] w R :=
  callF_eq (fn := Try.f80) (L := [0, 1, 4, 5, 6, 7, 8, 18, 23, 34]) (args := [x0, x1]) C_keep_Keep_redo_ent Try.func80 (by kernel_rfl) C_keep_Keep_redo_eq h

/-- furlong/furlongref16.Vote: function 81 -/
def C_furlongref16_Vote (x0 : Value) (x1 : Value) (x2 : Value) (w : World) (R : Value → World → Prop) : Prop :=
  Do Try.prog (Instr.box 67 x0) w fun k_3_1 w_2 =>
  Do Try.prog (Instr.alloc 67 true (.tuple #[])) w_2 fun t6_3 w_4 =>
  Bin Try.prog (At w_4) .lss 3 false true x1 (.int .i64 0) fun t9_5 =>
  GdP (isB t9_5 false) (fun R => R x1) fun t11_6 =>
  GdP (isB t9_5 false) (fun R => FAd 0 k_3_1 R) fun t12_7 =>
  GdP (isB t9_5 false) (fun R => LdC (At w_4) t12_7 R) fun t13_8 =>
  GdP (isB t9_5 false) (fun R => Bin Try.prog (At w_4) .lss 3 false false t11_6 t13_8 R) fun t14_9 =>
  Pick t9_5 (.bool true) t14_9 fun t15_10 =>
  GdP (isB t15_10 false) (fun R => R x2) fun t17_11 =>
  GdP (isB t15_10 false) (fun R => Bin Try.prog (At w_4) .lss 3 false true t17_11 (.int .i64 (-1)) R) fun t18_12 =>
  Pick t15_10 (.bool true) t18_12 fun t19_13 =>
  If t19_13 (
   LdA (At w_4) 6 k_3_1 fun t20_14 =>
   DoU Try.prog (Instr.storeAt 67 t6_3 t20_14) w_4 fun u_15 w_16 =>
   LdA (At w_16) 6 t6_3 fun r_17 =>
   R (.tuple #[r_17, (.int .i64 1)]) w_16) (
   FAd 0 k_3_1 fun t22_18 =>
   DoU Try.prog (Instr.storeAt 3 t22_18 x1) w_4 fun u_19 w_20 =>
   FAd 1 k_3_1 fun t24_21 =>
   DoU Try.prog (Instr.storeAt 3 t24_21 x2) w_20 fun u_22 w_23 =>
   LdA (At w_23) 6 k_3_1 fun t25_24 =>
   DoU Try.prog (Instr.storeAt 67 t6_3 t25_24) w_23 fun u_25 w_26 =>
   LdA (At w_26) 6 t6_3 fun r_27 =>
   R (.tuple #[r_27, (.int .i64 0)]) w_26)
theorem C_furlongref16_Vote_ent : Ent Try.prog 81 := ⟨_, Try.func81, by decide, rfl⟩
theorem C_furlongref16_Vote_eq {x0 x1 x2 : Value} {w : World} {R : Value → World → Prop} : (C_furlongref16_Vote x0 x1 x2 w R) = vFun Try.prog Try.f81 [0, 1, 2, 3, 6, 7, 19] [x0, x1, x2] w R := by kernel_rfl
theorem C_furlongref16_Vote_link {x0 x1 x2 : Value} {w : World} {R : Value → World → Prop} (h : C_furlongref16_Vote x0 x1 x2 w R) : CallF Try.prog 81 #[x0, x1, x2] w R :=
  callF_eq (fn := Try.f81) (L := [0, 1, 2, 3, 6, 7, 19]) (args := [x0, x1, x2]) C_furlongref16_Vote_ent Try.func81 (by kernel_rfl) C_furlongref16_Vote_eq h

/-- (*furlong/furlonglaw16.desk).change: function 82 -/
def C_furlonglaw16_desk_change (x0 : Value) (x1 : Value) (x2 : Value) (x3 : Value) (x4 : Value) (w : World) (R : Value → World → Prop) : Prop :=
  Do Try.prog (Instr.box 67 x1) w fun m_6_1 w_2 =>
  Bin Try.prog (At w_2) .neq 27 false false x2 x3 fun t13_3 =>
  If t13_3 (
   R (.bool false) w_2) (
   Bin Try.prog (At w_2) .eql 27 false true x2 (.int .i64 0) fun t15_4 =>
   ∃ J_5 : World → Prop,
   (∀ w_6, J_5 w_6 → (
    Bin Try.prog (At w_6) .eql 27 false true x2 (.int .i64 0) fun t29_7 =>
    GdP (isB t29_7 true) (fun R => R x4) fun t31_8 =>
    Pick t29_7 t31_8 (.bool false) fun t32_9 =>
    ∃ J_10 : World → Prop,
    (∀ w_11, J_10 w_11 → (
     R (.bool true) w_11)) ∧
    If t32_9 (
     ∃ S_12 : World → Prop, S_12 (World.drew w_6) ∧
     NilC x0 fun t35_13 =>
     FAd 2 t35_13 fun t36_14 =>
     LdC S_12 t36_14 fun t37_15 =>
     NilC x0 fun t39_16 =>
     FAd 2 t39_16 fun t40_17 =>
     LdC S_12 t40_17 fun t41_18 =>
     Len t41_18 fun t42_19 =>
     Bin Try.prog S_12 .sub 3 false true t42_19 (.int .i64 1) fun t43_20 =>
     SlcS 6 t37_15 (some t43_20) none none fun t44_21 =>
     NilC x0 fun t45_22 =>
     FAd 2 t45_22 fun t46_23 =>
     DoU Try.prog (Instr.storeAt 58 t46_23 t44_21) (World.drew w_6) fun u_24 w_25 =>
     J_10 w_25) (
     J_10 w_6))) ∧
   If t15_4 (
    ∃ J_27 : World → Prop,
    (∀ w_28, J_27 w_28 → (
     J_5 w_28)) ∧
    ∃ S_26 : World → Prop, S_26 (World.drew w_2) ∧
    NilC x0 fun t19_29 =>
    FAd 2 t19_29 fun t20_30 =>
    LdC S_26 t20_30 fun t21_31 =>
    LdA S_26 6 m_6_1 fun t23_32 =>
    (
     Do Try.prog (Instr.buildSlice 58 0 #[]) (World.drew w_2) fun t17_33 w_34 =>
     S_26 w_34 ∧
     (
      Do Try.prog (Builtin.append_ #[58, 58] 58 #[t17_33, t21_31]) w_34 fun t22_35 w_36 =>
      S_26 w_36 ∧
      Do Try.prog (Instr.buildSlice 58 1 #[(0, t23_32)]) w_36 fun t24_37 w_38 =>
      S_26 w_38 ∧
      Do Try.prog (Builtin.append_ #[58, 58] 58 #[t22_35, t24_37]) w_38 fun t25_39 w_40 =>
      S_26 w_40 ∧
      NilC x0 fun t26_41 =>
      FAd 2 t26_41 fun t27_42 =>
      DoU Try.prog (Instr.storeAt 58 t27_42 t25_39) w_40 fun u_43 w_44 =>
     J_27 w_44) ∧
     (
      Do Try.prog (Instr.buildSlice 58 1 #[(0, t23_32)]) w_34 fun t24_45 w_46 =>
      S_26 w_46 ∧
      Do Try.prog (Builtin.append_ #[58, 58] 58 #[t17_33, t21_31]) w_46 fun t22_47 w_48 =>
      S_26 w_48 ∧
      Do Try.prog (Builtin.append_ #[58, 58] 58 #[t22_47, t24_45]) w_48 fun t25_49 w_50 =>
      S_26 w_50 ∧
      NilC x0 fun t26_51 =>
      FAd 2 t26_51 fun t27_52 =>
      DoU Try.prog (Instr.storeAt 58 t27_52 t25_49) w_50 fun u_53 w_54 =>
     J_27 w_54)) ∧
    (
     Do Try.prog (Instr.buildSlice 58 1 #[(0, t23_32)]) (World.drew w_2) fun t24_55 w_56 =>
     S_26 w_56 ∧
     Do Try.prog (Instr.buildSlice 58 0 #[]) w_56 fun t17_57 w_58 =>
     S_26 w_58 ∧
     Do Try.prog (Builtin.append_ #[58, 58] 58 #[t17_57, t21_31]) w_58 fun t22_59 w_60 =>
     S_26 w_60 ∧
     Do Try.prog (Builtin.append_ #[58, 58] 58 #[t22_59, t24_55]) w_60 fun t25_61 w_62 =>
     S_26 w_62 ∧
     NilC x0 fun t26_63 =>
     FAd 2 t26_63 fun t27_64 =>
     DoU Try.prog (Instr.storeAt 58 t27_64 t25_61) w_62 fun u_65 w_66 =>
     J_27 w_66)) (
    J_5 w_2))
theorem C_furlonglaw16_desk_change_ent : Ent Try.prog 82 := ⟨_, Try.func82, by decide, rfl⟩
theorem C_furlonglaw16_desk_change_eq {x0 x1 x2 x3 x4 : Value} {w : World} {R : Value → World → Prop} : (C_furlonglaw16_desk_change x0 x1 x2 x3 x4 w R) = vFun Try.prog Try.f82 [0, 1, 2, 3, 4, 6, 10, 13, 15, 32] [x0, x1, x2, x3, x4] w R := by kernel_rfl
theorem C_furlonglaw16_desk_change_link {x0 x1 x2 x3 x4 : Value} {w : World} {R : Value → World → Prop} (h : C_furlonglaw16_desk_change x0 x1 x2 x3 x4 w R) : CallF Try.prog 82 #[x0, x1, x2, x3, x4] w R :=
  callF_eq (fn := Try.f82) (L := [0, 1, 2, 3, 4, 6, 10, 13, 15, 32]) (args := [x0, x1, x2, x3, x4]) C_furlonglaw16_desk_change_ent Try.func82 (by kernel_rfl) C_furlonglaw16_desk_change_eq h

/-- furlong/furlongref16.Put: function 83 -/
def C_furlongref16_Put (x0 : Value) (x1 : Value) (x2 : Value) (x3 : Value) (w : World) (R : Value → World → Prop) : Prop :=
  Do Try.prog (Instr.box 67 x0) w fun k_4_1 w_2 =>
  Do Try.prog (Instr.alloc 67 true (.tuple #[])) w_2 fun t8_3 w_4 =>
  FAd 2 k_4_1 fun t12_5 =>
  LdC (At w_4) t12_5 fun t13_6 =>
  Bin Try.prog (At w_4) .leq 3 false false x1 t13_6 fun t14_7 =>
  GdP (isB t14_7 false) (fun R => R x1) fun t16_8 =>
  GdP (isB t14_7 false) (fun R => LdA (At w_4) 6 k_4_1 R) fun t17_9 =>
  Gd (isB t14_7 false) (fun R => CallF Try.prog 107 #[t17_9] w_4 R) w_4 fun t18_10 w_11 =>
  GdP (isB t14_7 false) (fun R => Bin Try.prog (At w_11) .add 3 false true t18_10 (.int .i64 1) R) fun t19_12 =>
  GdP (isB t14_7 false) (fun R => Bin Try.prog (At w_11) .gtr 3 false false t16_8 t19_12 R) fun t20_13 =>
  Pick t14_7 (.bool true) t20_13 fun t21_14 =>
  GdP (isB t21_14 false) (fun R => R x2) fun t23_15 =>
  GdP (isB t21_14 false) (fun R => Bin Try.prog (At w_11) .lss 3 false true t23_15 (.int .i64 0) R) fun t24_16 =>
  Pick t21_14 (.bool true) t24_16 fun t25_17 =>
  GdP (isB t25_17 false) (fun R => R x3) fun t27_18 =>
  GdP (isB t25_17 false) (fun R => Len t27_18 R) fun t28_19 =>
  GdP (isB t25_17 false) (fun R => Bin Try.prog (At w_11) .gtr 3 false true t28_19 (.int .i64 60000) R) fun t29_20 =>
  Pick t25_17 (.bool true) t29_20 fun t30_21 =>
  If t30_21 (
   LdA (At w_11) 6 k_4_1 fun t31_22 =>
   DoU Try.prog (Instr.storeAt 67 t8_3 t31_22) w_11 fun u_23 w_24 =>
   LdA (At w_24) 6 t8_3 fun r_25 =>
   R (.tuple #[r_25, (.int .i64 1)]) w_24) (
   Do Try.prog (Instr.buildSlice 65 0 #[]) w_11 fun t32_26 w_27 =>
   FAd 5 k_4_1 fun t33_28 =>
   LdC (At w_27) t33_28 fun t34_29 =>
   FAd 2 k_4_1 fun t36_30 =>
   LdC (At w_27) t36_30 fun t37_31 =>
   Bin Try.prog (At w_27) .sub 3 false false x1 t37_31 fun t38_32 =>
   Bin Try.prog (At w_27) .sub 3 false true t38_32 (.int .i64 1) fun t39_33 =>
   SlcS 2 t34_29 none (some t39_33) none fun t40_34 =>
   Do Try.prog (Builtin.append_ #[65, 65] 65 #[t32_26, t40_34]) w_27 fun t41_35 w_36 =>
   CallF Try.prog 24 #[x3] w_36 fun t45_37 w_38 =>
   Bld Try.prog 80 [(0, x2), (1, t45_37)] fun t46_39 =>
   Do Try.prog (Instr.buildSlice 65 1 #[(0, t46_39)]) w_38 fun t47_40 w_41 =>
   Do Try.prog (Builtin.append_ #[65, 65] 65 #[t41_35, t47_40]) w_41 fun t48_42 w_43 =>
   FAd 5 k_4_1 fun t49_44 =>
   DoU Try.prog (Instr.storeAt 65 t49_44 t48_42) w_43 fun u_45 w_46 =>
   LdA (At w_46) 6 k_4_1 fun t50_47 =>
   DoU Try.prog (Instr.storeAt 67 t8_3 t50_47) w_46 fun u_48 w_49 =>
   LdA (At w_49) 6 t8_3 fun r_50 =>
   R (.tuple #[r_50, (.int .i64 0)]) w_49)
theorem C_furlongref16_Put_ent : Ent Try.prog 83 := ⟨_, Try.func83, by decide, rfl⟩
theorem C_furlongref16_Put_eq {x0 x1 x2 x3 : Value} {w : World} {R : Value → World → Prop} : (C_furlongref16_Put x0 x1 x2 x3 w R) = vFun Try.prog Try.f83 [0, 1, 2, 3, 4, 8, 9, 10, 30] [x0, x1, x2, x3] w R := by kernel_rfl
theorem C_furlongref16_Put_link {x0 x1 x2 x3 : Value} {w : World} {R : Value → World → Prop} (h : C_furlongref16_Put x0 x1 x2 x3 w R) : CallF Try.prog 83 #[x0, x1, x2, x3] w R :=
  callF_eq (fn := Try.f83) (L := [0, 1, 2, 3, 4, 8, 9, 10, 30]) (args := [x0, x1, x2, x3]) C_furlongref16_Put_ent Try.func83 (by kernel_rfl) C_furlongref16_Put_eq h

/-- furlong/furlongref16.Reset: function 84 -/
def C_furlongref16_Reset (x0 : Value) (x1 : Value) (x2 : Value) (x3 : Value) (w : World) (R : Value → World → Prop) : Prop :=
  Do Try.prog (Instr.box 67 x0) w fun k_4_1 w_2 =>
  Do Try.prog (Instr.alloc 67 true (.tuple #[])) w_2 fun t8_3 w_4 =>
  FAd 2 k_4_1 fun t13_5 =>
  LdC (At w_4) t13_5 fun t14_6 =>
  Bin Try.prog (At w_4) .leq 3 false false x1 t14_6 fun t15_7 =>
  GdP (isB t15_7 false) (fun R => R x1) fun t17_8 =>
  GdP (isB t15_7 false) (fun R => Bin Try.prog (At w_4) .gtr 3 false true t17_8 (.int .i64 1152921504606846976) R) fun t18_9 =>
  Pick t15_7 (.bool true) t18_9 fun t19_10 =>
  GdP (isB t19_10 false) (fun R => R x2) fun t21_11 =>
  GdP (isB t19_10 false) (fun R => Bin Try.prog (At w_4) .lss 3 false true t21_11 (.int .i64 0) R) fun t22_12 =>
  Pick t19_10 (.bool true) t22_12 fun t23_13 =>
  If t23_13 (
   LdA (At w_4) 6 k_4_1 fun t24_14 =>
   DoU Try.prog (Instr.storeAt 67 t8_3 t24_14) w_4 fun u_15 w_16 =>
   LdA (At w_16) 6 t8_3 fun r_17 =>
   R (.tuple #[r_17, (.int .i64 1)]) w_16) (
   Len x3 fun t27_18 =>
   Bin Try.prog (At w_4) .gtr 3 false true t27_18 (.int .i64 262144) fun t28_19 =>
   If t28_19 (
    LdA (At w_4) 6 k_4_1 fun t29_20 =>
    DoU Try.prog (Instr.storeAt 67 t8_3 t29_20) w_4 fun u_21 w_22 =>
    LdA (At w_22) 6 t8_3 fun r_23 =>
    R (.tuple #[r_23, (.int .i64 3)]) w_22) (
    LdA (At w_4) 6 k_4_1 fun t31_24 =>
    CallF Try.prog 107 #[t31_24] w_4 fun t32_25 w_26 =>
    Bin Try.prog (At w_26) .leq 3 false false x1 t32_25 fun t33_27 =>
    GdP (isB t33_27 true) (fun R => FAd 5 k_4_1 R) fun t35_28 =>
    GdP (isB t33_27 true) (fun R => LdC (At w_26) t35_28 R) fun t36_29 =>
    GdP (isB t33_27 true) (fun R => R x1) fun t37_30 =>
    GdP (isB t33_27 true) (fun R => FAd 2 k_4_1 R) fun t38_31 =>
    GdP (isB t33_27 true) (fun R => LdC (At w_26) t38_31 R) fun t39_32 =>
    GdP (isB t33_27 true) (fun R => Bin Try.prog (At w_26) .sub 3 false false t37_30 t39_32 R) fun t40_33 =>
    GdP (isB t33_27 true) (fun R => Bin Try.prog (At w_26) .sub 3 false true t40_33 (.int .i64 1) R) fun t41_34 =>
    GdP (isB t33_27 true) (fun R => IAdS 2 t36_29 t41_34 R) fun t42_35 =>
    GdP (isB t33_27 true) (fun R => FAd 0 t42_35 R) fun t43_36 =>
    GdP (isB t33_27 true) (fun R => LdC (At w_26) t43_36 R) fun t44_37 =>
    GdP (isB t33_27 true) (fun R => R x2) fun t45_38 =>
    GdP (isB t33_27 true) (fun R => Bin Try.prog (At w_26) .eql 3 false false t44_37 t45_38 R) fun t46_39 =>
    Pick t33_27 t46_39 (.bool false) fun t47_40 =>
    ∃ J_41 : Value → World → Prop,
    (∀ l_10_42, ∀ w_43, J_41 l_10_42 w_43 → (
     FAd 5 k_4_1 fun t58_44 =>
     DoU Try.prog (Instr.storeAt 65 t58_44 l_10_42) w_43 fun u_45 w_46 =>
     FAd 2 k_4_1 fun t60_47 =>
     DoU Try.prog (Instr.storeAt 3 t60_47 x1) w_46 fun u_48 w_49 =>
     FAd 3 k_4_1 fun t62_50 =>
     DoU Try.prog (Instr.storeAt 3 t62_50 x2) w_49 fun u_51 w_52 =>
     CallF Try.prog 24 #[x3] w_52 fun t64_53 w_54 =>
     FAd 4 k_4_1 fun t65_55 =>
     DoU Try.prog (Instr.storeAt 24 t65_55 t64_53) w_54 fun u_56 w_57 =>
     LdA (At w_57) 6 k_4_1 fun t66_58 =>
     DoU Try.prog (Instr.storeAt 67 t8_3 t66_58) w_57 fun u_59 w_60 =>
     LdA (At w_60) 6 t8_3 fun r_61 =>
     R (.tuple #[r_61, (.int .i64 0)]) w_60)) ∧
    If t47_40 (
     FAd 5 k_4_1 fun t49_62 =>
     LdC (At w_26) t49_62 fun t50_63 =>
     FAd 2 k_4_1 fun t52_64 =>
     LdC (At w_26) t52_64 fun t53_65 =>
     Bin Try.prog (At w_26) .sub 3 false false x1 t53_65 fun t54_66 =>
     SlcS 2 t50_63 (some t54_66) none none fun t55_67 =>
     Do Try.prog (Builtin.append_ #[65, 65] 65 #[(.slice none 0 0), t55_67]) w_26 fun t56_68 w_69 =>
     J_41 t56_68 w_69) (
     J_41 (.slice none 0 0) w_26)))
theorem C_furlongref16_Reset_ent : Ent Try.prog 84 := ⟨_, Try.func84, by decide, rfl⟩
theorem C_furlongref16_Reset_eq {x0 x1 x2 x3 : Value} {w : World} {R : Value → World → Prop} : (C_furlongref16_Reset x0 x1 x2 x3 w R) = vFun Try.prog Try.f84 [0, 1, 2, 3, 4, 8, 9, 10, 11, 25, 47] [x0, x1, x2, x3] w R := by kernel_rfl
theorem C_furlongref16_Reset_link {x0 x1 x2 x3 : Value} {w : World} {R : Value → World → Prop} (h : C_furlongref16_Reset x0 x1 x2 x3 w R) : CallF Try.prog 84 #[x0, x1, x2, x3] w R :=
  callF_eq (fn := Try.f84) (L := [0, 1, 2, 3, 4, 8, 9, 10, 11, 25, 47]) (args := [x0, x1, x2, x3]) C_furlongref16_Reset_ent Try.func84 (by kernel_rfl) C_furlongref16_Reset_eq h

/-- (*furlong/keep.Keep).behind: function 85 -/
def C_keep_Keep_behind (x0 : Value) (x1 : Value) (w : World) (R : Value → World → Prop) : Prop :=
  Do Try.prog (Instr.box 57 x0) w fun k_2_1 w_2 =>
  Do Try.prog (Instr.box 3 x1) w_2 fun index_3_3 w_4 =>
  R (.func (.func 108) #[] #[k_2_1, index_3_3]) w_4
theorem C_keep_Keep_behind_ent : Ent Try.prog 85 := ⟨_, Try.func85, by decide, rfl⟩
theorem C_keep_Keep_behind_eq {x0 x1 : Value} {w : World} {R : Value → World → Prop} : (C_keep_Keep_behind x0 x1 w R) = vFun Try.prog Try.f85 [0, 1, 2, 3, 4] [x0, x1] w R := by kernel_rfl
theorem C_keep_Keep_behind_link {x0 x1 : Value} {w : World} {R : Value → World → Prop} (h : C_keep_Keep_behind x0 x1 w R) : CallF Try.prog 85 #[x0, x1] w R :=
  callF_eq (fn := Try.f85) (L := [0, 1, 2, 3, 4]) (args := [x0, x1]) C_keep_Keep_behind_ent Try.func85 (by kernel_rfl) C_keep_Keep_behind_eq h

/-- (*furlong/keep.Keep).pack: function 86 -/
def C_keep_Keep_pack (x0 : Value) (w : World) (R : Value → World → Prop) : Prop :=
  ∃ S_1 : World → Prop, S_1 (World.drew w) ∧
  NilC x0 fun t7_2 =>
  FAd 1 t7_2 fun t8_3 =>
  LdC S_1 t8_3 fun t9_4 =>
  NilC x0 fun t11_5 =>
  FAd 2 t11_5 fun t12_6 =>
  LdC S_1 t12_6 fun t13_7 =>
  NilC x0 fun t15_8 =>
  FAd 3 t15_8 fun t16_9 =>
  LdC S_1 t16_9 fun t17_10 =>
  NilC x0 fun t19_11 =>
  FAd 4 t19_11 fun t20_12 =>
  LdC S_1 t20_12 fun t21_13 =>
  Do Try.prog (Instr.buildSlice 22 4 #[(0, t9_4), (1, t13_7), (2, t17_10), (3, t21_13)]) (World.drew w) fun t22_14 w_15 =>
  CallF Try.prog 77 #[(.slice none 0 0), t22_14] w_15 fun t23_16 w_17 =>
  S_1 w_17 ∧
  ∃ J_19 : Value → World → Prop,
  (∀ b_3_20, ∀ w_21, J_19 b_3_20 w_21 → (
   NilC x0 fun t38_22 =>
   FAd 6 t38_22 fun t39_23 =>
   LdC (At w_21) t39_23 fun t40_24 =>
   Len t40_24 fun t41_25 =>
   ∃ (I_26 : Nat → Value → Value → World → Prop) (m_27 : Nat), I_26 m_27 b_3_20 (.int .i64 0) w_21 ∧
   ∀ m_28, ∀ b_3_29, ∀ t42_30, ∀ w_31, I_26 m_28 b_3_29 t42_30 w_31 →
    Bin Try.prog (At w_31) .lss 3 false false t42_30 t41_25 fun t43_32 =>
    If t43_32 (
     IAdS 2 t40_24 t42_30 fun t44_33 =>
     LdA (At w_31) 2 t44_33 fun t45_34 =>
     Do Try.prog (Instr.alloc 141 true (.tuple #[])) w_31 fun e_5_35 w_36 =>
     DoU Try.prog (Instr.storeAt 141 e_5_35 t45_34) w_36 fun u_37 w_38 =>
     ∃ S_39 : World → Prop, S_39 (World.drew w_38) ∧
     FAd 0 e_5_35 fun t47_40 =>
     LdC S_39 t47_40 fun t48_41 =>
     FAd 1 e_5_35 fun t51_42 =>
     LdC S_39 t51_42 fun t52_43 =>
     Do Try.prog (Instr.buildSlice 22 1 #[(0, t48_41)]) (World.drew w_38) fun t49_44 w_45 =>
     S_39 w_45 ∧
     CallF Try.prog 77 #[b_3_29, t49_44] w_45 fun t50_46 w_47 =>
     S_39 w_47 ∧
     CallF Try.prog 78 #[t50_46, t52_43] w_47 fun t53_48 w_49 =>
     S_39 w_49 ∧
     Bin Try.prog (At w_49) .add 3 false true t42_30 (.int .i64 1) fun t54_50 =>
     ∃ m_51, m_51 < m_28 ∧
     I_26 m_51 t53_48 t54_50 w_49) (
     R b_3_29 w_31))) ∧
  ∃ S_18 : World → Prop, S_18 (World.drew w_17) ∧
  NilC x0 fun t26_52 =>
  FAd 5 t26_52 fun t27_53 =>
  LdC S_18 t27_53 fun t28_54 =>
  NilC x0 fun t31_55 =>
  FAd 6 t31_55 fun t32_56 =>
  LdC S_18 t32_56 fun t33_57 =>
  Len t33_57 fun t34_58 =>
  (
   CallF Try.prog 78 #[t23_16, t28_54] (World.drew w_17) fun t29_59 w_60 =>
   S_18 w_60 ∧
   Do Try.prog (Instr.buildSlice 22 1 #[(0, t34_58)]) w_60 fun t35_61 w_62 =>
   S_18 w_62 ∧
   CallF Try.prog 77 #[t29_59, t35_61] w_62 fun t36_63 w_64 =>
   S_18 w_64 ∧
   J_19 t36_63 w_64) ∧
  (
   Do Try.prog (Instr.buildSlice 22 1 #[(0, t34_58)]) (World.drew w_17) fun t35_65 w_66 =>
   S_18 w_66 ∧
   CallF Try.prog 78 #[t23_16, t28_54] w_66 fun t29_67 w_68 =>
   S_18 w_68 ∧
   CallF Try.prog 77 #[t29_67, t35_65] w_68 fun t36_69 w_70 =>
   S_18 w_70 ∧
   J_19 t36_69 w_70)
theorem C_keep_Keep_pack_ent : Ent Try.prog 86 := ⟨_, Try.func86, by decide, rfl⟩
theorem C_keep_Keep_pack_eq {x0 : Value} {w : World} {R : Value → World → Prop} : (C_keep_Keep_pack x0 w R) = vFun Try.prog Try.f86 [0, 2, 3, 5, 40, 41, 42, 43] [x0] w R := by kernel_rfl
theorem C_keep_Keep_pack_link {x0 : Value} {w : World} {R : Value → World → Prop} (h : C_keep_Keep_pack x0 w R) : CallF Try.prog 86 #[x0] w R :=
  callF_eq (fn := Try.f86) (L := [0, 2, 3, 5, 40, 41, 42, 43]) (args := [x0]) C_keep_Keep_pack_ent Try.func86 (by kernel_rfl) C_keep_Keep_pack_eq h

/-- furlong/strip.LayInt: function 103 -/
def C_strip_LayInt (x0 : Value) (x1 : Value) (w : World) (R : Value → World → Prop) : Prop :=
  Bin Try.prog (At w) .lss 2 false true x1 (.int .i64 0) fun t6_1 =>
  If t6_1 (
   Un Try.prog (At w) .xor x1 fun t9_2 =>
   ConvI .u64 t9_2 fun t10_3 =>
   Bin Try.prog (At w) .mul 170 true false (.int .u64 2) t10_3 fun t11_4 =>
   Bin Try.prog (At w) .add 170 false true t11_4 (.int .u64 1) fun t12_5 =>
   CallF Try.prog 104 #[x0, t12_5] w fun t13_6 w_7 =>
   R t13_6 w_7) (
   ConvI .u64 x1 fun t16_8 =>
   Bin Try.prog (At w) .mul 170 true false (.int .u64 2) t16_8 fun t17_9 =>
   CallF Try.prog 104 #[x0, t17_9] w fun t18_10 w_11 =>
   R t18_10 w_11)
theorem C_strip_LayInt_ent : Ent Try.prog 103 := ⟨_, Try.func103, by decide, rfl⟩
theorem C_strip_LayInt_eq {x0 x1 : Value} {w : World} {R : Value → World → Prop} : (C_strip_LayInt x0 x1 w R) = vFun Try.prog Try.f103 [0, 1, 4, 6] [x0, x1] w R := by kernel_rfl
theorem C_strip_LayInt_link {x0 x1 : Value} {w : World} {R : Value → World → Prop} (h : C_strip_LayInt x0 x1 w R) : CallF Try.prog 103 #[x0, x1] w R :=
  callF_eq (fn := Try.f103) (L := [0, 1, 4, 6]) (args := [x0, x1]) C_strip_LayInt_ent Try.func103 (by kernel_rfl) C_strip_LayInt_eq h

/-- furlong/strip.Lay: function 104 -/
def C_strip_Lay (x0 : Value) (x1 : Value) (w : World) (R : Value → World → Prop) : Prop :=
  Len x0 fun t9_1 =>
  Bin Try.prog (At w) .add 3 false true t9_1 (.int .i64 9) fun t10_2 =>
  Do Try.prog (Instr.makeSlice 24 (.int .i64 0) t10_2) w fun t11_3 w_4 =>
  Do Try.prog (Builtin.append_ #[24, 24] 24 #[t11_3, x0]) w_4 fun t13_5 w_6 =>
  CallF Try.prog 125 #[x1] w_6 fun t15_7 w_8 =>
  Bin Try.prog (At w_8) .sub 3 false true t15_7 (.int .i64 1) fun t16_9 =>
  Bin Try.prog (At w_8) .eql 3 false true t16_9 (.int .i64 0) fun t18_10 =>
  If t18_10 (
   ConvI .u8 x1 fun t21_11 =>
   Do Try.prog (Instr.buildSlice 24 1 #[(0, t21_11)]) w_8 fun t22_12 w_13 =>
   Do Try.prog (Builtin.append_ #[24, 24] 24 #[t13_5, t22_12]) w_13 fun t23_14 w_15 =>
   R t23_14 w_15) (
   Bin Try.prog (At w_8) .add 3 true false (.int .i64 192) t16_9 fun t26_16 =>
   Bin Try.prog (At w_8) .sub 3 false true t26_16 (.int .i64 1) fun t27_17 =>
   ConvI .u8 t27_17 fun t28_18 =>
   Do Try.prog (Instr.buildSlice 24 1 #[(0, t28_18)]) w_8 fun t29_19 w_20 =>
   Do Try.prog (Builtin.append_ #[24, 24] 24 #[t13_5, t29_19]) w_20 fun t30_21 w_22 =>
   CallF Try.prog 126 #[t16_9] w_22 fun t33_23 w_24 =>
   Bin Try.prog (At w_24) .sub 170 false false x1 t33_23 fun t34_25 =>
   ∃ (I_26 : Nat → Value → Value → World → Prop) (m_27 : Nat), I_26 m_27 t30_21 (.int .i64 0) w_24 ∧
   ∀ m_28, ∀ l_5_29, ∀ t36_30, ∀ w_31, I_26 m_28 l_5_29 t36_30 w_31 →
    Bin Try.prog (At w_31) .lss 3 false false t36_30 t16_9 fun t37_32 =>
    If t37_32 (
     Bin Try.prog (At w_31) .sub 3 false true t16_9 (.int .i64 1) fun t42_33 =>
     Bin Try.prog (At w_31) .sub 3 false false t42_33 t36_30 fun t44_34 =>
     Bin Try.prog (At w_31) .mul 3 true false (.int .i64 8) t44_34 fun t45_35 =>
     Bin Try.prog (At w_31) .shr 170 false false t34_25 t45_35 fun t46_36 =>
     ConvI .u8 t46_36 fun t47_37 =>
     Do Try.prog (Instr.buildSlice 24 1 #[(0, t47_37)]) w_31 fun t48_38 w_39 =>
     Do Try.prog (Builtin.append_ #[24, 24] 24 #[l_5_29, t48_38]) w_39 fun t49_40 w_41 =>
     Bin Try.prog (At w_41) .add 3 false true t36_30 (.int .i64 1) fun t50_42 =>
     ∃ m_43, m_43 < m_28 ∧
     I_26 m_43 t49_40 t50_42 w_41) (
     R l_5_29 w_31))
theorem C_strip_Lay_ent : Ent Try.prog 104 := ⟨_, Try.func104, by decide, rfl⟩
theorem C_strip_Lay_eq {x0 x1 : Value} {w : World} {R : Value → World → Prop} : (C_strip_Lay x0 x1 w R) = vFun Try.prog Try.f104 [0, 1, 4, 5, 6, 7, 18, 35, 36, 37] [x0, x1] w R := by kernel_rfl
theorem C_strip_Lay_link {x0 x1 : Value} {w : World} {R : Value → World → Prop} (h : C_strip_Lay x0 x1 w R) : CallF Try.prog 104 #[x0, x1] w R :=
  callF_eq (fn := Try.f104) (L := [0, 1, 4, 5, 6, 7, 18, 35, 36, 37]) (args := [x0, x1]) C_strip_Lay_ent Try.func104 (by kernel_rfl) C_strip_Lay_eq h

/-- (*furlong/keep.reader).int: function 105 -/
def C_keep_reader_int (x0 : Value) (w : World) (R : Value → World → Prop) : Prop :=
  ∃ S_1 : World → Prop, S_1 (World.drew w) ∧
  NilC x0 fun t8_2 =>
  FAd 0 t8_2 fun t9_3 =>
  LdC S_1 t9_3 fun t10_4 =>
  NilC x0 fun t12_5 =>
  FAd 1 t12_5 fun t13_6 =>
  LdC S_1 t13_6 fun t14_7 =>
  CallF Try.prog 127 #[t10_4, t14_7] (World.drew w) fun t15_8 w_9 =>
  Ext t15_8 0 fun t16_10 =>
  Ext t15_8 1 fun t17_11 =>
  Ext t15_8 2 fun t18_12 =>
  Bin Try.prog (At w_9) .neq 27 false true t18_12 (.int .i64 0) fun t20_13 =>
  If t20_13 (
   NilC x0 fun t22_14 =>
   FAd 2 t22_14 fun t23_15 =>
   DoU Try.prog (Instr.storeAt 4 t23_15 (.bool true)) w_9 fun u_16 w_17 =>
   R (.int .i64 0) w_17) (
   NilC x0 fun t26_18 =>
   FAd 1 t26_18 fun t27_19 =>
   DoU Try.prog (Instr.storeAt 3 t27_19 t17_11) w_9 fun u_20 w_21 =>
   R t16_10 w_21)
theorem C_keep_reader_int_ent : Ent Try.prog 105 := ⟨_, Try.func105, by decide, rfl⟩
theorem C_keep_reader_int_eq {x0 : Value} {w : World} {R : Value → World → Prop} : (C_keep_reader_int x0 w R) = vFun Try.prog Try.f105 [0, 2, 3, 4, 5, 20] [x0] w R := by kernel_rfl
theorem C_keep_reader_int_link {x0 : Value} {w : World} {R : Value → World → Prop} (h : C_keep_reader_int x0 w R) : CallF Try.prog 105 #[x0] w R :=
  callF_eq (fn := Try.f105) (L := [0, 2, 3, 4, 5, 20]) (args := [x0]) C_keep_reader_int_ent Try.func105 (by kernel_rfl) C_keep_reader_int_eq h

/-- (*furlong/keep.reader).bytes: function 106 -/
def C_keep_reader_bytes (x0 : Value) (w : World) (R : Value → World → Prop) : Prop :=
  ∃ S_1 : World → Prop, S_1 (World.drew w) ∧
  NilC x0 fun t8_2 =>
  FAd 0 t8_2 fun t9_3 =>
  LdC S_1 t9_3 fun t10_4 =>
  NilC x0 fun t12_5 =>
  FAd 1 t12_5 fun t13_6 =>
  LdC S_1 t13_6 fun t14_7 =>
  CallF Try.prog 128 #[t10_4, t14_7] (World.drew w) fun t15_8 w_9 =>
  Ext t15_8 0 fun t16_10 =>
  Ext t15_8 1 fun t17_11 =>
  Ext t15_8 2 fun t18_12 =>
  Bin Try.prog (At w_9) .neq 27 false true t18_12 (.int .i64 0) fun t20_13 =>
  If t20_13 (
   NilC x0 fun t22_14 =>
   FAd 2 t22_14 fun t23_15 =>
   DoU Try.prog (Instr.storeAt 4 t23_15 (.bool true)) w_9 fun u_16 w_17 =>
   R (.slice none 0 0) w_17) (
   NilC x0 fun t26_18 =>
   FAd 1 t26_18 fun t27_19 =>
   DoU Try.prog (Instr.storeAt 3 t27_19 t17_11) w_9 fun u_20 w_21 =>
   R t16_10 w_21)
theorem C_keep_reader_bytes_ent : Ent Try.prog 106 := ⟨_, Try.func106, by decide, rfl⟩
theorem C_keep_reader_bytes_eq {x0 : Value} {w : World} {R : Value → World → Prop} : (C_keep_reader_bytes x0 w R) = vFun Try.prog Try.f106 [0, 2, 3, 4, 5, 20] [x0] w R := by kernel_rfl
theorem C_keep_reader_bytes_link {x0 : Value} {w : World} {R : Value → World → Prop} (h : C_keep_reader_bytes x0 w R) : CallF Try.prog 106 #[x0] w R :=
  callF_eq (fn := Try.f106) (L := [0, 2, 3, 4, 5, 20]) (args := [x0]) C_keep_reader_bytes_ent Try.func106 (by kernel_rfl) C_keep_reader_bytes_eq h

/-- furlong/furlongref16.Last: function 107 -/
def C_furlongref16_Last (x0 : Value) (w : World) (R : Value → World → Prop) : Prop :=
  Do Try.prog (Instr.box 67 x0) w fun k_1_1 w_2 =>
  FAd 2 k_1_1 fun t3_3 =>
  LdC (At w_2) t3_3 fun t4_4 =>
  FAd 5 k_1_1 fun t5_5 =>
  LdC (At w_2) t5_5 fun t6_6 =>
  Len t6_6 fun t7_7 =>
  Bin Try.prog (At w_2) .add 3 false false t4_4 t7_7 fun t8_8 =>
  R t8_8 w_2
theorem C_furlongref16_Last_ent : Ent Try.prog 107 := ⟨_, Try.func107, by decide, rfl⟩
theorem C_furlongref16_Last_eq {x0 : Value} {w : World} {R : Value → World → Prop} : (C_furlongref16_Last x0 w R) = vFun Try.prog Try.f107 [0, 1, 2] [x0] w R := by kernel_rfl
theorem C_furlongref16_Last_link {x0 : Value} {w : World} {R : Value → World → Prop} (h : C_furlongref16_Last x0 w R) : CallF Try.prog 107 #[x0] w R :=
  callF_eq (fn := Try.f107) (L := [0, 1, 2]) (args := [x0]) C_furlongref16_Last_ent Try.func107 (by kernel_rfl) C_furlongref16_Last_eq h

/-- (*furlong/keep.Keep).behind$1: function 108 -/
def C_keep_Keep_behind_1 (x0 : Value) (x1 : Value) (x2 : Value) (w : World) (R : Value → World → Prop) : Prop :=
  LdC (At w) x1 fun t6_1 =>
  NilC t6_1 fun t7_2 =>
  FAd 6 t7_2 fun t8_3 =>
  LdC (At w) t8_3 fun t9_4 =>
  Len t9_4 fun t10_5 =>
  ∃ (I_6 : Nat → Value → World → Prop) (m_7 : Nat), I_6 m_7 (.int .i64 0) w ∧
  ∀ m_8, ∀ t11_9, ∀ w_10, I_6 m_8 t11_9 w_10 →
   Bin Try.prog (At w_10) .lss 3 false false t11_9 t10_5 fun t12_11 =>
   If t12_11 (
    IAdS 2 t9_4 t11_9 fun t14_12 =>
    LdA (At w_10) 2 t14_12 fun t15_13 =>
    Do Try.prog (Instr.alloc 141 true (.tuple #[])) w_10 fun e_5_14 w_15 =>
    DoU Try.prog (Instr.storeAt 141 e_5_14 t15_13) w_15 fun u_16 w_17 =>
    ∃ S_18 : World → Prop, S_18 (World.drew w_17) ∧
    LdC S_18 x1 fun t16_19 =>
    NilC t16_19 fun t17_20 =>
    FAd 3 t17_20 fun t18_21 =>
    LdC S_18 t18_21 fun t19_22 =>
    Bin Try.prog S_18 .add 3 false true t19_22 (.int .i64 1) fun t20_23 =>
    Bin Try.prog S_18 .add 3 false false t20_23 t11_9 fun t22_24 =>
    LdC S_18 x2 fun t23_25 =>
    Bin Try.prog S_18 .gtr 3 false false t22_24 t23_25 fun t24_26 =>
    GdP (isB t24_26 true) (fun R => R x0) fun t26_27 =>
    GdP (isB t24_26 true) (fun R => LdA S_18 2 e_5_14 R) fun t27_28 =>
    Gd (isB t24_26 true) (fun R => CallV Try.prog t26_27 #[t27_28] (World.drew w_17) R) (World.drew w_17) fun t28_29 w_30 =>
    S_18 w_30 ∧
    GdP (isB t24_26 true) (fun R => Un Try.prog S_18 .not t28_29 R) fun t29_31 =>
    Pick t24_26 t29_31 (.bool false) fun t30_32 =>
    If t30_32 (
     R (.tuple #[]) w_30) (
     Bin Try.prog (At w_30) .add 3 false true t11_9 (.int .i64 1) fun t31_33 =>
     ∃ m_34, m_34 < m_8 ∧
     I_6 m_34 t31_33 w_30)) (
    R (.tuple #[]) w_10)
theorem C_keep_Keep_behind_1_ent : Ent Try.prog 108 := ⟨_, Try.func108, by decide, rfl⟩
theorem C_keep_Keep_behind_1_eq {x0 x1 x2 : Value} {w : World} {R : Value → World → Prop} : (C_keep_Keep_behind_1 x0 x1 x2 w R) = vFun Try.prog Try.f108 [0, 1, 2, 4, 5, 9, 10, 11, 12, 30] [x0, x1, x2] w R := by kernel_rfl
theorem C_keep_Keep_behind_1_link {x0 x1 x2 : Value} {w : World} {R : Value → World → Prop} (h : C_keep_Keep_behind_1 x0 x1 x2 w R) : CallF Try.prog 108 #[x0, x1, x2] w R :=
  callF_eq (fn := Try.f108) (L := [0, 1, 2, 4, 5, 9, 10, 11, 12, 30]) (args := [x0, x1, x2]) C_keep_Keep_behind_1_ent Try.func108 (by kernel_rfl) C_keep_Keep_behind_1_eq h

/-- furlong/strip.Size: function 125 -/
def C_strip_Size (x0 : Value) (w : World) (R : Value → World → Prop) : Prop :=
  Bin Try.prog (At w) .lss 170 false true x0 (.int .u64 192) fun t5_1 =>
  If t5_1 (
   R (.int .i64 1) w) (
   ∃ (I_2 : Nat → Value → World → Prop) (m_3 : Nat), I_2 m_3 (.int .i64 1) w ∧
   ∀ m_4, ∀ k_3_5, ∀ w_6, I_2 m_4 k_3_5 w_6 →
    Bin Try.prog (At w_6) .lss 3 false true k_3_5 (.int .i64 8) fun t7_7 =>
    GdP (isB t7_7 true) (fun R => R x0) fun t9_8 =>
    GdP (isB t7_7 true) (fun R => R k_3_5) fun t10_9 =>
    GdP (isB t7_7 true) (fun R => Bin Try.prog (At w_6) .add 3 false true t10_9 (.int .i64 1) R) fun t11_10 =>
    Gd (isB t7_7 true) (fun R => CallF Try.prog 126 #[t11_10] w_6 R) w_6 fun t12_11 w_12 =>
    GdP (isB t7_7 true) (fun R => Bin Try.prog (At w_12) .geq 170 false false t9_8 t12_11 R) fun t13_13 =>
    Pick t7_7 t13_13 (.bool false) fun t14_14 =>
    If t14_14 (
     Bin Try.prog (At w_12) .add 3 false true k_3_5 (.int .i64 1) fun t16_15 =>
     ∃ m_16, m_16 < m_4 ∧
     I_2 m_16 t16_15 w_12) (
     Bin Try.prog (At w_12) .add 3 true false (.int .i64 1) k_3_5 fun t18_17 =>
     R t18_17 w_12))
theorem C_strip_Size_ent : Ent Try.prog 125 := ⟨_, Try.func125, by decide, rfl⟩
theorem C_strip_Size_eq {x0 : Value} {w : World} {R : Value → World → Prop} : (C_strip_Size x0 w R) = vFun Try.prog Try.f125 [0, 2, 3, 5, 14] [x0] w R := by kernel_rfl
theorem C_strip_Size_link {x0 : Value} {w : World} {R : Value → World → Prop} (h : C_strip_Size x0 w R) : CallF Try.prog 125 #[x0] w R :=
  callF_eq (fn := Try.f125) (L := [0, 2, 3, 5, 14]) (args := [x0]) C_strip_Size_ent Try.func125 (by kernel_rfl) C_strip_Size_eq h

/-- furlong/strip.shelf: function 126 -/
def C_strip_shelf (x0 : Value) (w : World) (R : Value → World → Prop) : Prop :=
  Bin Try.prog (At w) .sub 3 false true x0 (.int .i64 1) fun t6_1 =>
  ∃ (I_2 : Nat → Value → Value → World → Prop) (m_3 : Nat), I_2 m_3 (.int .u64 192) (.int .i64 0) w ∧
  ∀ m_4, ∀ x_3_5, ∀ t7_6, ∀ w_7, I_2 m_4 x_3_5 t7_6 w_7 →
   Bin Try.prog (At w_7) .lss 3 false false t7_6 t6_1 fun t8_8 =>
   If t8_8 (
    Bin Try.prog (At w_7) .add 3 false true t7_6 (.int .i64 1) fun t12_9 =>
    Bin Try.prog (At w_7) .mul 3 true false (.int .i64 8) t12_9 fun t13_10 =>
    Bin Try.prog (At w_7) .shl 170 true false (.int .u64 1) t13_10 fun t14_11 =>
    Bin Try.prog (At w_7) .add 170 false false x_3_5 t14_11 fun t15_12 =>
    Bin Try.prog (At w_7) .add 3 false true t7_6 (.int .i64 1) fun t16_13 =>
    ∃ m_14, m_14 < m_4 ∧
    I_2 m_14 t15_12 t16_13 w_7) (
    R x_3_5 w_7)
theorem C_strip_shelf_ent : Ent Try.prog 126 := ⟨_, Try.func126, by decide, rfl⟩
theorem C_strip_shelf_eq {x0 : Value} {w : World} {R : Value → World → Prop} : (C_strip_shelf x0 w R) = vFun Try.prog Try.f126 [0, 2, 3, 4, 6, 7, 8] [x0] w R := by kernel_rfl
theorem C_strip_shelf_link {x0 : Value} {w : World} {R : Value → World → Prop} (h : C_strip_shelf x0 w R) : CallF Try.prog 126 #[x0] w R :=
  callF_eq (fn := Try.f126) (L := [0, 2, 3, 4, 6, 7, 8]) (args := [x0]) C_strip_shelf_ent Try.func126 (by kernel_rfl) C_strip_shelf_eq h

/-- furlong/strip.ReadInt: function 127 -/
def C_strip_ReadInt (x0 : Value) (x1 : Value) (w : World) (R : Value → World → Prop) : Prop :=
  CallF Try.prog 134 #[x0, x1] w fun t13_1 w_2 =>
  Ext t13_1 0 fun t14_3 =>
  Ext t13_1 1 fun t15_4 =>
  Ext t13_1 2 fun t16_5 =>
  Bin Try.prog (At w_2) .rem 170 false true t14_3 (.int .u64 2) fun t18_6 =>
  Bin Try.prog (At w_2) .eql 170 false true t18_6 (.int .u64 1) fun t19_7 =>
  If t19_7 (
   Bin Try.prog (At w_2) .quo 170 false true t14_3 (.int .u64 2) fun t21_8 =>
   ConvI .i64 t21_8 fun t22_9 =>
   Un Try.prog (At w_2) .xor t22_9 fun t23_10 =>
   R (.tuple #[t23_10, t15_4, t16_5]) w_2) (
   Bin Try.prog (At w_2) .quo 170 false true t14_3 (.int .u64 2) fun t27_11 =>
   ConvI .i64 t27_11 fun t28_12 =>
   R (.tuple #[t28_12, t15_4, t16_5]) w_2)
theorem C_strip_ReadInt_ent : Ent Try.prog 127 := ⟨_, Try.func127, by decide, rfl⟩
theorem C_strip_ReadInt_eq {x0 x1 : Value} {w : World} {R : Value → World → Prop} : (C_strip_ReadInt x0 x1 w R) = vFun Try.prog Try.f127 [0, 1, 4, 5, 6, 7, 8, 9, 19] [x0, x1] w R := by kernel_rfl
theorem C_strip_ReadInt_link {x0 x1 : Value} {w : World} {R : Value → World → Prop} (h : C_strip_ReadInt x0 x1 w R) : CallF Try.prog 127 #[x0, x1] w R :=
  callF_eq (fn := Try.f127) (L := [0, 1, 4, 5, 6, 7, 8, 9, 19]) (args := [x0, x1]) C_strip_ReadInt_ent Try.func127 (by kernel_rfl) C_strip_ReadInt_eq h

/-- furlong/strip.ReadBytes: function 128 -/
def C_strip_ReadBytes (x0 : Value) (x1 : Value) (w : World) (R : Value → World → Prop) : Prop :=
  CallF Try.prog 134 #[x0, x1] w fun t14_1 w_2 =>
  Ext t14_1 0 fun t15_3 =>
  Ext t14_1 1 fun t16_4 =>
  Ext t14_1 2 fun t17_5 =>
  Bin Try.prog (At w_2) .neq 27 false true t17_5 (.int .i64 0) fun t20_6 =>
  If t20_6 (
   R (.tuple #[(.slice none 0 0), t16_4, t17_5]) w_2) (
   Bin Try.prog (At w_2) .gtr 170 false true t15_3 (.int .u64 1048576) fun t25_7 =>
   If t25_7 (
    R (.tuple #[(.slice none 0 0), x1, (.int .i64 3)]) w_2) (
    Len x0 fun t30_8 =>
    Bin Try.prog (At w_2) .sub 3 false false t30_8 t16_4 fun t32_9 =>
    ConvI .u64 t32_9 fun t33_10 =>
    Bin Try.prog (At w_2) .gtr 170 false false t15_3 t33_10 fun t34_11 =>
    If t34_11 (
     Len x0 fun t36_12 =>
     R (.tuple #[(.slice none 0 0), t36_12, (.int .i64 5)]) w_2) (
     ConvI .i64 t15_3 fun t39_13 =>
     Bin Try.prog (At w_2) .add 3 false false t16_4 t39_13 fun t40_14 =>
     SlcS 1 x0 (some t16_4) (some t40_14) none fun t44_15 =>
     Do Try.prog (Builtin.append_ #[24, 24] 24 #[(.slice none 0 0), t44_15]) w_2 fun t45_16 w_17 =>
     R (.tuple #[t45_16, t40_14, (.int .i64 0)]) w_17)))
theorem C_strip_ReadBytes_ent : Ent Try.prog 128 := ⟨_, Try.func128, by decide, rfl⟩
theorem C_strip_ReadBytes_eq {x0 x1 : Value} {w : World} {R : Value → World → Prop} : (C_strip_ReadBytes x0 x1 w R) = vFun Try.prog Try.f128 [0, 1, 4, 5, 6, 7, 8, 9, 10, 18, 23, 27] [x0, x1] w R := by kernel_rfl
theorem C_strip_ReadBytes_link {x0 x1 : Value} {w : World} {R : Value → World → Prop} (h : C_strip_ReadBytes x0 x1 w R) : CallF Try.prog 128 #[x0, x1] w R :=
  callF_eq (fn := Try.f128) (L := [0, 1, 4, 5, 6, 7, 8, 9, 10, 18, 23, 27]) (args := [x0, x1]) C_strip_ReadBytes_ent Try.func128 (by kernel_rfl) C_strip_ReadBytes_eq h

/-- furlong/strip.Read: function 134 -/
def C_strip_Read (x0 : Value) (x1 : Value) (w : World) (R : Value → World → Prop) : Prop :=
  Bin Try.prog (At w) .lss 3 false true x1 (.int .i64 0) fun t15_1 =>
  GdP (isB t15_1 false) (fun R => R x1) fun t17_2 =>
  GdP (isB t15_1 false) (fun R => R x0) fun t18_3 =>
  GdP (isB t15_1 false) (fun R => Len t18_3 R) fun t19_4 =>
  GdP (isB t15_1 false) (fun R => Bin Try.prog (At w) .gtr 3 false false t17_2 t19_4 R) fun t20_5 =>
  Pick t15_1 (.bool true) t20_5 fun t21_6 =>
  If t21_6 (
   R (.tuple #[(.int .u64 0), (.int .i64 0), (.int .i64 1)]) w) (
   Len x0 fun t25_7 =>
   Bin Try.prog (At w) .eql 3 false false x1 t25_7 fun t26_8 =>
   If t26_8 (
    R (.tuple #[(.int .u64 0), x1, (.int .i64 5)]) w) (
    IAdS 1 x0 x1 fun t31_9 =>
    LdC (At w) t31_9 fun t32_10 =>
    Bin Try.prog (At w) .lss 5 false true t32_10 (.int .u8 192) fun t33_11 =>
    If t33_11 (
     IAdS 1 x0 x1 fun t36_12 =>
     LdC (At w) t36_12 fun t37_13 =>
     ConvI .u64 t37_13 fun t38_14 =>
     Bin Try.prog (At w) .add 3 false true x1 (.int .i64 1) fun t40_15 =>
     R (.tuple #[t38_14, t40_15, (.int .i64 0)]) w) (
     IAdS 1 x0 x1 fun t44_16 =>
     LdC (At w) t44_16 fun t45_17 =>
     Bin Try.prog (At w) .gtr 5 false true t45_17 (.int .u8 199) fun t46_18 =>
     If t46_18 (
      R (.tuple #[(.int .u64 0), x1, (.int .i64 4)]) w) (
      IAdS 1 x0 x1 fun t50_19 =>
      LdC (At w) t50_19 fun t51_20 =>
      ConvI .i64 t51_20 fun t52_21 =>
      Bin Try.prog (At w) .sub 3 false true t52_21 (.int .i64 192) fun t53_22 =>
      Bin Try.prog (At w) .add 3 false true t53_22 (.int .i64 1) fun t54_23 =>
      Bin Try.prog (At w) .add 3 false true x1 (.int .i64 1) fun t58_24 =>
      SlcS 1 x0 (some t58_24) none none fun t59_25 =>
      Len t59_25 fun t60_26 =>
      ∃ J_27 : Value → Value → Value → World → Prop,
      (∀ x_8_28, ∀ left_9_29, ∀ t61_30, ∀ w_31, J_27 x_8_28 left_9_29 t61_30 w_31 → (
       CallF Try.prog 126 #[t54_23] w_31 fun t76_32 w_33 =>
       Bin Try.prog (At w_33) .gtr 3 false true left_9_29 (.int .i64 0) fun t79_34 =>
       If t79_34 (
        Len x0 fun t81_35 =>
        R (.tuple #[(.int .u64 0), t81_35, (.int .i64 5)]) w_33) (
        Bin Try.prog (At w_33) .add 170 false false x_8_28 t76_32 fun t85_36 =>
        Bin Try.prog (At w_33) .lss 170 false false t85_36 t76_32 fun t87_37 =>
        If t87_37 (
         R (.tuple #[(.int .u64 0), x1, (.int .i64 4)]) w_33) (
         Bin Try.prog (At w_33) .add 170 false false x_8_28 t76_32 fun t91_38 =>
         Bin Try.prog (At w_33) .add 3 false true x1 (.int .i64 1) fun t93_39 =>
         Bin Try.prog (At w_33) .add 3 false false t93_39 t54_23 fun t95_40 =>
         R (.tuple #[t91_38, t95_40, (.int .i64 0)]) w_33)))) ∧
      ∃ (I_41 : Nat → Value → Value → Value → World → Prop) (m_42 : Nat), I_41 m_42 (.int .u64 0) t54_23 (.int .i64 0) w ∧
      ∀ m_43, ∀ x_8_44, ∀ left_9_45, ∀ t61_46, ∀ w_47, I_41 m_43 x_8_44 left_9_45 t61_46 w_47 →
       Bin Try.prog (At w_47) .lss 3 false false t61_46 t60_26 fun t62_48 =>
       If t62_48 (
        IAdS 1 t59_25 t61_46 fun t63_49 =>
        LdC (At w_47) t63_49 fun t64_50 =>
        Bin Try.prog (At w_47) .shl 170 false true x_8_44 (.int .u64 8) fun t66_51 =>
        ConvI .u64 t64_50 fun t68_52 =>
        Bin Try.prog (At w_47) .or 170 false false t66_51 t68_52 fun t69_53 =>
        Bin Try.prog (At w_47) .sub 3 false true left_9_45 (.int .i64 1) fun t71_54 =>
        Bin Try.prog (At w_47) .eql 3 false true t71_54 (.int .i64 0) fun t73_55 =>
        If t73_55 (
         J_27 t69_53 t71_54 t61_46 w_47) (
         Bin Try.prog (At w_47) .add 3 false true t61_46 (.int .i64 1) fun t74_56 =>
         ∃ m_57, m_57 < m_43 ∧
         I_41 m_57 t69_53 t71_54 t74_56 w_47)) (
        J_27 x_8_44 left_9_45 t61_46 w_47)))))
theorem C_strip_Read_ent : Ent Try.prog 134 := ⟨_, Try.func134, by decide, rfl⟩
theorem C_strip_Read_eq {x0 x1 : Value} {w : World} {R : Value → World → Prop} : (C_strip_Read x0 x1 w R) = vFun Try.prog Try.f134 [0, 1, 4, 5, 6, 7, 8, 9, 11, 12, 13, 22, 28, 41, 59, 60, 61, 62, 73, 77, 82] [x0, x1] w R := by kernel_rfl
theorem C_strip_Read_link {x0 x1 : Value} {w : World} {R : Value → World → Prop} (h : C_strip_Read x0 x1 w R) : CallF Try.prog 134 #[x0, x1] w R :=
  callF_eq (fn := Try.f134) (L := [0, 1, 4, 5, 6, 7, 8, 9, 11, 12, 13, 22, 28, 41, 59, 60, 61, 62, 73, 77, 82]) (args := [x0, x1]) C_strip_Read_ent Try.func134 (by kernel_rfl) C_strip_Read_eq h

end Go.Proofs.Ytmlaconjeplhpaa
