/- Conditions for functions of the program to run, as the program that read the translation printed them, each linked to the translation by the kernel. -/
import Derived.Test.YtmlaconjeplhpaaProg
import Derived.Test.YtmlaconjeplhpaaMA
set_option linter.unusedVariables false
set_option maxRecDepth 100000
namespace Go.Proofs.Ytmlaconjeplhpaa
open Go Go.Vc

/-- furlong/furlonglaw15.StoreAny: function 3 -/
def C_furlonglaw15_StoreAny (x0 : Value) (x1 : Value) (x2 : Value) (x3 : Value) (w : World) (R : Value → World → Prop) : Prop :=
  CallF Try.prog 15 #[] w fun t16_1 w_2 =>
  Un Try.prog (At w_2) .not t16_1 fun t17_3 =>
  If t17_3 (
   R (.bool false) w_2) (
   Pu Try.prog (At w_2) (Builtin.max_ #[3, 3] 3 #[x0, (.int .i64 0)]) fun t20_4 =>
   Pu Try.prog (At w_2) (Builtin.min_ #[3, 3] 3 #[t20_4, (.int .i64 600)]) fun t21_5 =>
   Bin Try.prog (At w_2) .add 3 true false (.int .i64 1) t21_5 fun t22_6 =>
   CallF Try.prog 16 #[t22_6] w_2 fun t23_7 w_8 =>
   Ext t23_7 0 fun t24_9 =>
   Ext t23_7 1 fun t25_10 =>
   Bin Try.prog (At w_8) .neq 27 false true t25_10 (.int .i64 0) fun t27_11 =>
   GdP (isB t27_11 false) (fun R => R x3) fun t29_12 =>
   GdP (isB t27_11 false) (fun R => Len t29_12 R) fun t30_13 =>
   GdP (isB t27_11 false) (fun R => Bin Try.prog (At w_8) .gtr 3 false true t30_13 (.int .i64 131072) R) fun t31_14 =>
   Pick t27_11 (.bool true) t31_14 fun t32_15 =>
   If t32_15 (
    Bin Try.prog (At w_8) .eql 27 false true t25_10 (.int .i64 0) fun t34_16 =>
    R t34_16 w_8) (
    Len x2 fun t36_17 =>
    ∃ (I_18 : Nat → Value → World → Prop) (m_19 : Nat), I_18 m_19 (.int .i64 0) w_8 ∧
    ∀ m_20, ∀ t37_21, ∀ w_22, I_18 m_20 t37_21 w_22 →
     Bin Try.prog (At w_22) .lss 3 false false t37_21 t36_17 fun t38_23 =>
     If t38_23 (
      IAdS 1 x2 t37_21 fun t40_24 =>
      LdC (At w_22) t40_24 fun t41_25 =>
      Len x1 fun t44_26 =>
      Bin Try.prog (At w_22) .lss 3 false false t37_21 t44_26 fun t45_27 =>
      GdP (isB t45_27 true) (fun R => R t37_21) fun t47_28 =>
      GdP (isB t45_27 true) (fun R => Bin Try.prog (At w_22) .lss 3 false true t47_28 (.int .i64 300) R) fun t48_29 =>
      Pick t45_27 t48_29 (.bool false) fun t49_30 =>
      ∃ J_31 : World → Prop,
      (∀ w_32, J_31 w_32 → (
       Bin Try.prog (At w_32) .add 3 false true t37_21 (.int .i64 1) fun t57_33 =>
       ∃ m_34, m_34 < m_20 ∧
       I_18 m_34 t57_33 w_32)) ∧
      If t49_30 (
       IAdS 1 x1 t37_21 fun t53_35 =>
       LdC (At w_22) t53_35 fun t54_36 =>
       CallF Try.prog 17 #[t24_9, t54_36, t41_25] w_22 fun t56_37 w_38 =>
       J_31 w_38) (
       J_31 w_22)) (
      CallF Try.prog 18 #[t24_9] w_22 fun t60_39 w_40 =>
      Ext t60_39 0 fun t61_41 =>
      Ext t60_39 1 fun t62_42 =>
      Ext t60_39 2 fun t63_43 =>
      Do Try.prog (Instr.alloc 33 true (.tuple #[])) w_40 fun t14_44 w_45 =>
      DoU Try.prog (Instr.storeAt 33 t14_44 t62_42) w_45 fun u_46 w_47 =>
      Bin Try.prog (At w_47) .neq 27 false true t63_43 (.int .i64 0) fun t65_48 =>
      GdP (isB t65_48 false) (fun R => R t61_41) fun t67_49 =>
      GdP (isB t65_48 false) (fun R => Bin Try.prog (At w_47) .eql 31 false true t67_49 (.pointer none) R) fun t68_50 =>
      Pick t65_48 (.bool true) t68_50 fun t69_51 =>
      If t69_51 (
       Bin Try.prog (At w_47) .neq 27 false true t63_43 (.int .i64 0) fun t71_52 =>
       R t71_52 w_47) (
       CallF Try.prog 19 #[t61_41, x3] w_47 fun t74_53 w_54 =>
       CallF Try.prog 20 #[t61_41, x3] w_54 fun t77_55 w_56 =>
       CallF Try.prog 19 #[t61_41, x3] w_56 fun t80_57 w_58 =>
       CallF Try.prog 21 #[t61_41] w_58 fun t82_59 w_60 =>
       CallF Try.prog 18 #[t24_9] w_60 fun t84_61 w_62 =>
       CallF Try.prog 22 #[t61_41] w_62 fun t86_63 w_64 =>
       Bin Try.prog (At w_64) .geq 3 false true t86_63 (.int .i64 0) fun t87_65 =>
       GdP (isB t87_65 true) (fun R => R t61_41) fun t89_66 =>
       Gd (isB t87_65 true) (fun R => CallF Try.prog 23 #[t89_66] w_64 R) w_64 fun t90_67 w_68 =>
       GdP (isB t87_65 true) (fun R => Bin Try.prog (At w_68) .geq 3 false true t90_67 (.int .i64 0) R) fun t91_69 =>
       Pick t87_65 t91_69 (.bool false) fun t92_70 =>
       R t92_70 w_68))))
theorem C_furlonglaw15_StoreAny_ent : Ent Try.prog 3 := ⟨_, Try.func3, by decide, rfl⟩
theorem C_furlonglaw15_StoreAny_eq {x0 x1 x2 x3 : Value} {w : World} {R : Value → World → Prop} : (C_furlonglaw15_StoreAny x0 x1 x2 x3 w R) = vFun Try.prog Try.f3 [0, 1, 2, 3, 8, 9, 10, 11, 12, 13, 15, 17, 32, 35, 36, 37, 38, 49, 69] [x0, x1, x2, x3] w R := by kernel_rfl
theorem C_furlonglaw15_StoreAny_link {x0 x1 x2 x3 : Value} {w : World} {R : Value → World → Prop} (h : C_furlonglaw15_StoreAny x0 x1 x2 x3 w R) : CallF Try.prog 3 #[x0, x1, x2, x3] w R :=
  callF_eq (fn := Try.f3) (L := [0, 1, 2, 3, 8, 9, 10, 11, 12, 13, 15, 17, 32, 35, 36, 37, 38, 49, 69]) (args := [x0, x1, x2, x3]) C_furlonglaw15_StoreAny_ent Try.func3 (by kernel_rfl) C_furlonglaw15_StoreAny_eq h

/-- furlong/furlonglaw15.StoreNil: function 4 -/
def C_furlonglaw15_StoreNil (x0 : Value) (w : World) (R : Value → World → Prop) : Prop :=
  CallF Try.prog 15 #[] w fun t22_1 w_2 =>
  Un Try.prog (At w_2) .not t22_1 fun t23_3 =>
  If t23_3 (
   R (.bool false) w_2) (
   CallF Try.prog 18 #[(.pointer none)] w_2 fun t25_4 w_5 =>
   Ext t25_4 0 fun t26_6 =>
   Ext t25_4 1 fun t27_7 =>
   Ext t25_4 2 fun t28_8 =>
   Do Try.prog (Instr.alloc 33 true (.tuple #[])) w_5 fun f_5_9 w_10 =>
   DoU Try.prog (Instr.storeAt 33 f_5_9 t27_7) w_10 fun u_11 w_12 =>
   Bin Try.prog (At w_12) .neq 27 false true t28_8 (.int .i64 17) fun t30_13 =>
   GdP (isB t30_13 false) (fun R => FAd 2 f_5_9 R) fun t32_14 =>
   GdP (isB t30_13 false) (fun R => LdC (At w_12) t32_14 R) fun t33_15 =>
   GdP (isB t30_13 false) (fun R => Len t33_15 R) fun t34_16 =>
   GdP (isB t30_13 false) (fun R => Bin Try.prog (At w_12) .neq 3 false true t34_16 (.int .i64 0) R) fun t35_17 =>
   Pick t30_13 (.bool true) t35_17 fun t36_18 =>
   GdP (isB t36_18 false) (fun R => R (.pointer none)) fun t38_19 =>
   GdP (isB t36_18 false) (fun R => R x0) fun t39_20 =>
   Gd (isB t36_18 false) (fun R => CallF Try.prog 19 #[t38_19, t39_20] w_12 R) w_12 fun t40_21 w_22 =>
   GdP (isB t36_18 false) (fun R => Bin Try.prog (At w_22) .neq 27 false true t40_21 (.int .i64 17) R) fun t41_23 =>
   Pick t36_18 (.bool true) t41_23 fun t42_24 =>
   GdP (isB t42_24 false) (fun R => R (.pointer none)) fun t44_25 =>
   Gd (isB t42_24 false) (fun R => CallF Try.prog 21 #[t44_25] w_22 R) w_22 fun t45_26 w_27 =>
   GdP (isB t42_24 false) (fun R => Bin Try.prog (At w_27) .neq 27 false true t45_26 (.int .i64 17) R) fun t46_28 =>
   Pick t42_24 (.bool true) t46_28 fun t47_29 =>
   GdP (isB t47_29 false) (fun R => R (.pointer none)) fun t49_30 =>
   GdP (isB t47_29 false) (fun R => R x0) fun t50_31 =>
   Gd (isB t47_29 false) (fun R => CallF Try.prog 20 #[t49_30, t50_31] w_27 R) w_27 fun t51_32 w_33 =>
   GdP (isB t47_29 false) (fun R => Bin Try.prog (At w_33) .neq 27 false true t51_32 (.int .i64 17) R) fun t52_34 =>
   Pick t47_29 (.bool true) t52_34 fun t53_35 =>
   GdP (isB t53_35 false) (fun R => R (.pointer none)) fun t55_36 =>
   Gd (isB t53_35 false) (fun R => CallF Try.prog 22 #[t55_36] w_33 R) w_33 fun t56_37 w_38 =>
   GdP (isB t53_35 false) (fun R => Bin Try.prog (At w_38) .neq 3 false true t56_37 (.int .i64 0) R) fun t57_39 =>
   Pick t53_35 (.bool true) t57_39 fun t58_40 =>
   GdP (isB t58_40 false) (fun R => R (.pointer none)) fun t60_41 =>
   Gd (isB t58_40 false) (fun R => CallF Try.prog 23 #[t60_41] w_38 R) w_38 fun t61_42 w_43 =>
   GdP (isB t58_40 false) (fun R => Bin Try.prog (At w_43) .neq 3 false true t61_42 (.int .i64 0) R) fun t62_44 =>
   Pick t58_40 (.bool true) t62_44 fun t63_45 =>
   If t63_45 (
    R (.bool false) w_43) (
    Len x0 fun t65_46 =>
    Bin Try.prog (At w_43) .gtr 3 false true t65_46 (.int .i64 1000) fun t66_47 =>
    If t66_47 (
     R (.bool true) w_43) (
     CallF Try.prog 16 #[(.int .i64 1000)] w_43 fun t68_48 w_49 =>
     Ext t68_48 0 fun t69_50 =>
     Ext t68_48 1 fun t70_51 =>
     CallF Try.prog 18 #[t69_50] w_49 fun t73_52 w_53 =>
     Ext t73_52 0 fun t74_54 =>
     Ext t73_52 1 fun t75_55 =>
     Ext t73_52 2 fun t76_56 =>
     Do Try.prog (Instr.alloc 33 true (.tuple #[])) w_53 fun t10_57 w_58 =>
     DoU Try.prog (Instr.storeAt 33 t10_57 t75_55) w_58 fun u_59 w_60 =>
     CallF Try.prog 24 #[x0] w_60 fun t78_61 w_62 =>
     Bin Try.prog (At w_62) .neq 27 false true t76_56 (.int .i64 0) fun t80_63 =>
     GdP (isB t80_63 false) (fun R => R t74_54) fun t82_64 =>
     GdP (isB t80_63 false) (fun R => R t78_61) fun t83_65 =>
     Gd (isB t80_63 false) (fun R => CallF Try.prog 20 #[t82_64, t83_65] w_62 R) w_62 fun t84_66 w_67 =>
     GdP (isB t80_63 false) (fun R => Bin Try.prog (At w_67) .neq 27 false true t84_66 (.int .i64 0) R) fun t85_68 =>
     Pick t80_63 (.bool true) t85_68 fun t86_69 =>
     GdP (isB t86_69 false) (fun R => R t74_54) fun t88_70 =>
     GdP (isB t86_69 false) (fun R => R t78_61) fun t89_71 =>
     Gd (isB t86_69 false) (fun R => CallF Try.prog 19 #[t88_70, t89_71] w_67 R) w_67 fun t90_72 w_73 =>
     GdP (isB t86_69 false) (fun R => Bin Try.prog (At w_73) .neq 27 false true t90_72 (.int .i64 0) R) fun t91_74 =>
     Pick t86_69 (.bool true) t91_74 fun t92_75 =>
     If t92_75 (
      R (.bool false) w_73) (
      Len t78_61 fun t94_76 =>
      ∃ (I_77 : Nat → Value → World → Prop) (m_78 : Nat), I_77 m_78 (.int .i64 0) w_73 ∧
      ∀ m_79, ∀ t95_80, ∀ w_81, I_77 m_79 t95_80 w_81 →
       Bin Try.prog (At w_81) .lss 3 false false t95_80 t94_76 fun t96_82 =>
       If t96_82 (
        IAdS 1 t78_61 t95_80 fun t100_83 =>
        LdC (At w_81) t100_83 fun t101_84 =>
        Bin Try.prog (At w_81) .xor 5 false true t101_84 (.int .u8 255) fun t102_85 =>
        IAdS 1 t78_61 t95_80 fun t103_86 =>
        DoU Try.prog (Instr.storeAt 5 t103_86 t102_85) w_81 fun u_87 w_88 =>
        Bin Try.prog (At w_88) .add 3 false true t95_80 (.int .i64 1) fun t104_89 =>
        ∃ m_90, m_90 < m_79 ∧
        I_77 m_90 t104_89 w_88) (
        CallF Try.prog 18 #[t69_50] w_81 fun t107_91 w_92 =>
        Ext t107_91 0 fun t108_93 =>
        Ext t107_91 1 fun t109_94 =>
        Ext t107_91 2 fun t110_95 =>
        Do Try.prog (Instr.alloc 33 true (.tuple #[])) w_92 fun a_15_96 w_97 =>
        DoU Try.prog (Instr.storeAt 33 a_15_96 t109_94) w_97 fun u_98 w_99 =>
        CallF Try.prog 18 #[t69_50] w_99 fun t113_100 w_101 =>
        Ext t113_100 0 fun t114_102 =>
        Ext t113_100 1 fun t115_103 =>
        Ext t113_100 2 fun t116_104 =>
        Do Try.prog (Instr.alloc 33 true (.tuple #[])) w_101 fun b_18_105 w_106 =>
        DoU Try.prog (Instr.storeAt 33 b_18_105 t115_103) w_106 fun u_107 w_108 =>
        FAd 2 a_15_96 fun t117_109 =>
        LdC (At w_108) t117_109 fun t118_110 =>
        Len t118_110 fun t119_111 =>
        Bin Try.prog (At w_108) .neq 3 false true t119_111 (.int .i64 1) fun t120_112 =>
        GdP (isB t120_112 false) (fun R => FAd 2 b_18_105 R) fun t122_113 =>
        GdP (isB t120_112 false) (fun R => LdC (At w_108) t122_113 R) fun t123_114 =>
        GdP (isB t120_112 false) (fun R => Len t123_114 R) fun t124_115 =>
        GdP (isB t120_112 false) (fun R => Bin Try.prog (At w_108) .neq 3 false true t124_115 (.int .i64 1) R) fun t125_116 =>
        Pick t120_112 (.bool true) t125_116 fun t126_117 =>
        If t126_117 (
         R (.bool false) w_108) (
         FAd 1 a_15_96 fun t127_118 =>
         LdC (At w_108) t127_118 fun t128_119 =>
         Len t128_119 fun t129_120 =>
         ∃ (I_121 : Nat → Value → World → Prop) (m_122 : Nat), I_121 m_122 (.int .i64 0) w_108 ∧
         ∀ m_123, ∀ t130_124, ∀ w_125, I_121 m_123 t130_124 w_125 →
          Bin Try.prog (At w_125) .lss 3 false false t130_124 t129_120 fun t131_126 =>
          If t131_126 (
           FAd 1 a_15_96 fun t133_127 =>
           LdC (At w_125) t133_127 fun t134_128 =>
           IAdS 1 t134_128 t130_124 fun t136_129 =>
           LdC (At w_125) t136_129 fun t137_130 =>
           Bin Try.prog (At w_125) .xor 5 false true t137_130 (.int .u8 1) fun t138_131 =>
           IAdS 1 t134_128 t130_124 fun t139_132 =>
           DoU Try.prog (Instr.storeAt 5 t139_132 t138_131) w_125 fun u_133 w_134 =>
           Bin Try.prog (At w_134) .add 3 false true t130_124 (.int .i64 1) fun t140_135 =>
           ∃ m_136, m_136 < m_123 ∧
           I_121 m_136 t140_135 w_134) (
           FAd 2 a_15_96 fun t141_137 =>
           LdC (At w_125) t141_137 fun t142_138 =>
           IAdS 1 t142_138 (.int .i64 0) fun t143_139 =>
           LdC (At w_125) t143_139 fun t144_140 =>
           Len t144_140 fun t145_141 =>
           ∃ (I_142 : Nat → Value → World → Prop) (m_143 : Nat), I_142 m_143 (.int .i64 0) w_125 ∧
           ∀ m_144, ∀ t146_145, ∀ w_146, I_142 m_144 t146_145 w_146 →
            Bin Try.prog (At w_146) .lss 3 false false t146_145 t145_141 fun t147_147 =>
            If t147_147 (
             FAd 2 a_15_96 fun t149_148 =>
             LdC (At w_146) t149_148 fun t150_149 =>
             IAdS 1 t150_149 (.int .i64 0) fun t151_150 =>
             LdC (At w_146) t151_150 fun t152_151 =>
             IAdS 1 t152_151 t146_145 fun t154_152 =>
             LdC (At w_146) t154_152 fun t155_153 =>
             Bin Try.prog (At w_146) .xor 5 false true t155_153 (.int .u8 2) fun t156_154 =>
             IAdS 1 t152_151 t146_145 fun t157_155 =>
             DoU Try.prog (Instr.storeAt 5 t157_155 t156_154) w_146 fun u_156 w_157 =>
             Bin Try.prog (At w_157) .add 3 false true t146_145 (.int .i64 1) fun t158_158 =>
             ∃ m_159, m_159 < m_144 ∧
             I_142 m_159 t158_158 w_157) (
             FAd 1 b_18_105 fun t159_160 =>
             LdC (At w_146) t159_160 fun t160_161 =>
             CallF Try.prog 25 #[t160_161, x0] w_146 fun t162_162 w_163 =>
             GdP (isB t162_162 true) (fun R => FAd 2 b_18_105 R) fun t164_164 =>
             GdP (isB t162_162 true) (fun R => LdC (At w_163) t164_164 R) fun t165_165 =>
             GdP (isB t162_162 true) (fun R => IAdS 1 t165_165 (.int .i64 0) R) fun t166_166 =>
             GdP (isB t162_162 true) (fun R => LdC (At w_163) t166_166 R) fun t167_167 =>
             GdP (isB t162_162 true) (fun R => R x0) fun t168_168 =>
             Gd (isB t162_162 true) (fun R => CallF Try.prog 25 #[t167_167, t168_168] w_163 R) w_163 fun t169_169 w_170 =>
             Pick t162_162 t169_169 (.bool false) fun t170_171 =>
             R t170_171 w_170))))))))
theorem C_furlonglaw15_StoreNil_ent : Ent Try.prog 4 := ⟨_, Try.func4, by decide, rfl⟩
theorem C_furlonglaw15_StoreNil_eq {x0 : Value} {w : World} {R : Value → World → Prop} : (C_furlonglaw15_StoreNil x0 w R) = vFun Try.prog Try.f4 [0, 2, 3, 5, 6, 7, 9, 11, 12, 13, 15, 18, 20, 21, 23, 63, 66, 92, 94, 95, 96, 126, 129, 130, 131, 145, 146, 147] [x0] w R := by kernel_rfl
theorem C_furlonglaw15_StoreNil_link {x0 : Value} {w : World} {R : Value → World → Prop} (h : C_furlonglaw15_StoreNil x0 w R) : CallF Try.prog 4 #[x0] w R :=
  callF_eq (fn := Try.f4) (L := [0, 2, 3, 5, 6, 7, 9, 11, 12, 13, 15, 18, 20, 21, 23, 63, 66, 92, 94, 95, 96, 126, 129, 130, 131, 145, 146, 147]) (args := [x0]) C_furlonglaw15_StoreNil_ent Try.func4 (by kernel_rfl) C_furlonglaw15_StoreNil_eq h

/-- furlong/furlonglaw15.StoreStale: function 5 -/
def C_furlonglaw15_StoreStale (x0 : Value) (x1 : Value) (x2 : Value) (w : World) (R : Value → World → Prop) : Prop :=
  CallF Try.prog 15 #[] w fun t12_1 w_2 =>
  Un Try.prog (At w_2) .not t12_1 fun t13_3 =>
  If t13_3 (
   R (.bool false) w_2) (
   Len x0 fun t15_4 =>
   Bin Try.prog (At w_2) .gtr 3 false true t15_4 (.int .i64 30) fun t16_5 =>
   GdP (isB t16_5 false) (fun R => R x2) fun t18_6 =>
   GdP (isB t16_5 false) (fun R => Len t18_6 R) fun t19_7 =>
   GdP (isB t16_5 false) (fun R => Bin Try.prog (At w_2) .gtr 3 false true t19_7 (.int .i64 3000) R) fun t20_8 =>
   Pick t16_5 (.bool true) t20_8 fun t21_9 =>
   If t21_9 (
    R (.bool true) w_2) (
    CallF Try.prog 26 #[(.int .i64 1200)] w_2 fun t23_10 w_11 =>
    Ext t23_10 0 fun t24_12 =>
    Ext t23_10 1 fun t25_13 =>
    Do Try.prog (Instr.alloc 44 true (.tuple #[])) w_11 fun k_7_14 w_15 =>
    DoU Try.prog (Instr.storeAt 44 k_7_14 t24_12) w_15 fun u_16 w_17 =>
    Un Try.prog (At w_17) .not t25_13 fun t27_18 =>
    If t27_18 (
     R (.bool false) w_17) (
     Len x0 fun t29_19 =>
     ∃ (I_20 : Nat → Value → Value → World → Prop) (m_21 : Nat), I_20 m_21 (.bool false) (.int .i64 0) w_17 ∧
     ∀ m_22, ∀ t6_23, ∀ t30_24, ∀ w_25, I_20 m_22 t6_23 t30_24 w_25 →
      Bin Try.prog (At w_25) .lss 3 false false t30_24 t29_19 fun t31_26 =>
      If t31_26 (
       IAdS 1 x0 t30_24 fun t33_27 =>
       LdC (At w_25) t33_27 fun t34_28 =>
       Len t34_28 fun t36_29 =>
       Bin Try.prog (At w_25) .gtr 3 false true t36_29 (.int .i64 2000) fun t37_30 =>
       If t37_30 (
        R (.bool true) w_25) (
        Len x1 fun t40_31 =>
        Bin Try.prog (At w_25) .lss 3 false false t30_24 t40_31 fun t41_32 =>
        ∃ J_33 : Value → World → Prop,
        (∀ keep_11_34, ∀ w_35, J_33 keep_11_34 w_35 → (
         CallF Try.prog 27 #[k_7_14, t34_28] w_35 fun t49_36 w_37 =>
         Un Try.prog (At w_37) .not t49_36 fun t50_38 =>
         GdP (isB t50_38 false) (fun R => R t30_24) fun t52_39 =>
         GdP (isB t50_38 false) (fun R => Bin Try.prog (At w_37) .rem 3 false true t52_39 (.int .i64 3) R) fun t53_40 =>
         GdP (isB t50_38 false) (fun R => Bin Try.prog (At w_37) .eql 3 false true t53_40 (.int .i64 0) R) fun t54_41 =>
         GdP (isB t50_38 false) (fun R => R t54_41) fun t55_42 =>
         GdP (isB t55_42 true) (fun R => R x2) fun t56_43 =>
         Gd (isB t55_42 true) (fun R => CallF Try.prog 27 #[k_7_14, t56_43] w_37 R) w_37 fun t57_44 w_45 =>
         GdP (isB t55_42 true) (fun R => Un Try.prog (At w_45) .not t57_44 R) fun t58_46 =>
         GdP (isB t50_38 false) (fun R => Pick t55_42 t58_46 (.bool false) R) fun t59_47 =>
         Pick t50_38 (.bool true) t59_47 fun t60_48 =>
         GdP (isB t60_48 false) (fun R => R keep_11_34) fun t62_49 =>
         Gd (isB t60_48 false) (fun R => CallF Try.prog 28 #[k_7_14, t62_49] w_45 R) w_45 fun t63_50 w_51 =>
         GdP (isB t60_48 false) (fun R => Un Try.prog (At w_51) .not t63_50 R) fun t64_52 =>
         Pick t60_48 (.bool true) t64_52 fun t65_53 =>
         GdP (isB t65_53 false) (fun R => R t30_24) fun t67_54 =>
         GdP (isB t65_53 false) (fun R => Bin Try.prog (At w_51) .rem 3 false true t67_54 (.int .i64 4) R) fun t68_55 =>
         GdP (isB t65_53 false) (fun R => Bin Try.prog (At w_51) .eql 3 false true t68_55 (.int .i64 3) R) fun t69_56 =>
         GdP (isB t65_53 false) (fun R => R t69_56) fun t70_57 =>
         GdP (isB t70_57 true) (fun R => R t34_28) fun t71_58 =>
         Gd (isB t70_57 true) (fun R => CallF Try.prog 29 #[k_7_14, t71_58] w_51 R) w_51 fun t72_59 w_60 =>
         GdP (isB t70_57 true) (fun R => Un Try.prog (At w_60) .not t72_59 R) fun t73_61 =>
         GdP (isB t65_53 false) (fun R => Pick t70_57 t73_61 (.bool false) R) fun t74_62 =>
         Pick t65_53 (.bool true) t74_62 fun t75_63 =>
         If t75_63 (
          R (.bool false) w_60) (
          Bin Try.prog (At w_60) .add 3 false true t30_24 (.int .i64 1) fun t76_64 =>
          ∃ m_65, m_65 < m_22 ∧
          I_20 m_65 t6_23 t76_64 w_60))) ∧
        If t41_32 (
         IAdS 1 x1 t30_24 fun t44_66 =>
         LdC (At w_25) t44_66 fun t45_67 =>
         Pu Try.prog (At w_25) (Builtin.max_ #[3, 3] 3 #[t45_67, (.int .i64 0)]) fun t46_68 =>
         Pu Try.prog (At w_25) (Builtin.min_ #[3, 3] 3 #[t46_68, (.int .i64 1048576)]) fun t47_69 =>
         J_33 t47_69 w_25) (
         J_33 (.int .i64 0) w_25))) (
       CallF Try.prog 28 #[k_7_14, (.int .i64 0)] w_25 fun t77_70 w_71 =>
       R t77_70 w_71))))
theorem C_furlonglaw15_StoreStale_ent : Ent Try.prog 5 := ⟨_, Try.func5, by decide, rfl⟩
theorem C_furlonglaw15_StoreStale_eq {x0 x1 x2 : Value} {w : World} {R : Value → World → Prop} : (C_furlonglaw15_StoreStale x0 x1 x2 w R) = vFun Try.prog Try.f5 [0, 1, 2, 6, 7, 8, 9, 10, 11, 13, 21, 27, 28, 29, 30, 31, 37, 41, 75] [x0, x1, x2] w R := by kernel_rfl
theorem C_furlonglaw15_StoreStale_link {x0 x1 x2 : Value} {w : World} {R : Value → World → Prop} (h : C_furlonglaw15_StoreStale x0 x1 x2 w R) : CallF Try.prog 5 #[x0, x1, x2] w R :=
  callF_eq (fn := Try.f5) (L := [0, 1, 2, 6, 7, 8, 9, 10, 11, 13, 21, 27, 28, 29, 30, 31, 37, 41, 75]) (args := [x0, x1, x2]) C_furlonglaw15_StoreStale_ent Try.func5 (by kernel_rfl) C_furlonglaw15_StoreStale_eq h

/-- furlong/furlonglaw15.StoreHolds: function 6 -/
def C_furlonglaw15_StoreHolds (x0 : Value) (x1 : Value) (w : World) (R : Value → World → Prop) : Prop :=
  CallF Try.prog 15 #[] w fun t9_1 w_2 =>
  Un Try.prog (At w_2) .not t9_1 fun t10_3 =>
  If t10_3 (
   R (.bool false) w_2) (
   CallF Try.prog 30 #[x0] w_2 fun t13_4 w_5 =>
   CallF Try.prog 26 #[t13_4] w_5 fun t14_6 w_7 =>
   Ext t14_6 0 fun t15_8 =>
   Ext t14_6 1 fun t16_9 =>
   Do Try.prog (Instr.alloc 44 true (.tuple #[])) w_7 fun k_5_10 w_11 =>
   DoU Try.prog (Instr.storeAt 44 k_5_10 t15_8) w_11 fun u_12 w_13 =>
   Un Try.prog (At w_13) .not t16_9 fun t18_14 =>
   If t18_14 (
    R (.bool false) w_13) (
    Len x1 fun t20_15 =>
    ∃ J_16 : Value → Value → World → Prop,
    (∀ t4_17, ∀ t21_18, ∀ w_19, J_16 t4_17 t21_18 w_19 → (
     CallF Try.prog 28 #[k_5_10, (.int .i64 0)] w_19 fun t38_20 w_21 =>
     Gd (isB t38_20 true) (fun R => CallF Try.prog 28 #[k_5_10, (.int .i64 9)] w_21 R) w_21 fun t40_22 w_23 =>
     Pick t38_20 t40_22 (.bool false) fun t41_24 =>
     R t41_24 w_23)) ∧
    ∃ (I_25 : Nat → Value → Value → World → Prop) (m_26 : Nat), I_25 m_26 (.bool false) (.int .i64 0) w_13 ∧
    ∀ m_27, ∀ t4_28, ∀ t21_29, ∀ w_30, I_25 m_27 t4_28 t21_29 w_30 →
     Bin Try.prog (At w_30) .lss 3 false false t21_29 t20_15 fun t22_31 =>
     If t22_31 (
      IAdS 3 x1 t21_29 fun t24_32 =>
      LdA (At w_30) 3 t24_32 fun t25_33 =>
      Do Try.prog (Instr.alloc 52 true (.tuple #[])) w_30 fun o_8_34 w_35 =>
      DoU Try.prog (Instr.storeAt 52 o_8_34 t25_33) w_35 fun u_36 w_37 =>
      Bin Try.prog (At w_37) .geq 3 false true t21_29 (.int .i64 150) fun t27_38 =>
      GdP (isB t27_38 false) (fun R => FAd 2 o_8_34 R) fun t29_39 =>
      GdP (isB t27_38 false) (fun R => LdC (At w_37) t29_39 R) fun t30_40 =>
      GdP (isB t27_38 false) (fun R => Len t30_40 R) fun t31_41 =>
      GdP (isB t27_38 false) (fun R => Bin Try.prog (At w_37) .gtr 3 false true t31_41 (.int .i64 1048576) R) fun t32_42 =>
      Pick t27_38 (.bool true) t32_42 fun t33_43 =>
      If t33_43 (
       J_16 t4_28 t21_29 w_37) (
       LdA (At w_37) 3 o_8_34 fun t34_44 =>
       CallF Try.prog 31 #[k_5_10, t34_44] w_37 fun t35_45 w_46 =>
       Un Try.prog (At w_46) .not t35_45 fun t36_47 =>
       If t36_47 (
        R (.bool false) w_46) (
        Bin Try.prog (At w_46) .add 3 false true t21_29 (.int .i64 1) fun t37_48 =>
        ∃ m_49, m_49 < m_27 ∧
        I_25 m_49 t4_28 t37_48 w_46))) (
      J_16 t4_28 t21_29 w_30)))
theorem C_furlonglaw15_StoreHolds_ent : Ent Try.prog 6 := ⟨_, Try.func6, by decide, rfl⟩
theorem C_furlonglaw15_StoreHolds_eq {x0 x1 : Value} {w : World} {R : Value → World → Prop} : (C_furlonglaw15_StoreHolds x0 x1 w R) = vFun Try.prog Try.f6 [0, 1, 4, 5, 6, 7, 8, 10, 18, 19, 20, 21, 22, 33, 36] [x0, x1] w R := by kernel_rfl
theorem C_furlonglaw15_StoreHolds_link {x0 x1 : Value} {w : World} {R : Value → World → Prop} (h : C_furlonglaw15_StoreHolds x0 x1 w R) : CallF Try.prog 6 #[x0, x1] w R :=
  callF_eq (fn := Try.f6) (L := [0, 1, 4, 5, 6, 7, 8, 10, 18, 19, 20, 21, 22, 33, 36]) (args := [x0, x1]) C_furlonglaw15_StoreHolds_ent Try.func6 (by kernel_rfl) C_furlonglaw15_StoreHolds_eq h

/-- furlong/furlonglaw15.StoreAgain: function 7 -/
def C_furlonglaw15_StoreAgain (x0 : Value) (x1 : Value) (w : World) (R : Value → World → Prop) : Prop :=
  CallF Try.prog 15 #[] w fun t12_1 w_2 =>
  Un Try.prog (At w_2) .not t12_1 fun t13_3 =>
  If t13_3 (
   R (.bool false) w_2) (
   CallF Try.prog 30 #[x0] w_2 fun t16_4 w_5 =>
   CallF Try.prog 26 #[t16_4] w_5 fun t17_6 w_7 =>
   Ext t17_6 0 fun t18_8 =>
   Ext t17_6 1 fun t19_9 =>
   Do Try.prog (Instr.alloc 44 true (.tuple #[])) w_7 fun k_5_10 w_11 =>
   DoU Try.prog (Instr.storeAt 44 k_5_10 t18_8) w_11 fun u_12 w_13 =>
   Un Try.prog (At w_13) .not t19_9 fun t21_14 =>
   If t21_14 (
    R (.bool false) w_13) (
    Len x1 fun t23_15 =>
    ∃ J_16 : Value → Value → World → Prop,
    (∀ t4_17, ∀ t24_18, ∀ w_19, J_16 t4_17 t24_18 w_19 → (
     ∃ (I_20 : Nat → Value → Value → World → Prop) (m_21 : Nat), I_20 m_21 t4_17 (.int .i64 0) w_19 ∧
     ∀ m_22, ∀ t4_23, ∀ t41_24, ∀ w_25, I_20 m_22 t4_23 t41_24 w_25 →
      Bin Try.prog (At w_25) .lss 3 false true t41_24 (.int .i64 3) fun t42_26 =>
      If t42_26 (
       FAd 0 k_5_10 fun t44_27 =>
       LdC (At w_25) t44_27 fun t45_28 =>
       CallF Try.prog 18 #[t45_28] w_25 fun t46_29 w_30 =>
       Ext t46_29 0 fun t47_31 =>
       Ext t46_29 1 fun t48_32 =>
       Ext t46_29 2 fun t49_33 =>
       Do Try.prog (Instr.alloc 33 true (.tuple #[])) w_30 fun f_10_34 w_35 =>
       DoU Try.prog (Instr.storeAt 33 f_10_34 t48_32) w_35 fun u_36 w_37 =>
       ∃ S_38 : World → Prop, S_38 (World.drew w_37) ∧
       Bin Try.prog S_38 .neq 27 false true t49_33 (.int .i64 0) fun t51_39 =>
       GdP (isB t51_39 false) (fun R => FAd 0 f_10_34 R) fun t53_40 =>
       GdP (isB t51_39 false) (fun R => LdC S_38 t53_40 R) fun t54_41 =>
       GdP (isB t51_39 false) (fun R => FAd 3 k_5_10 R) fun t55_42 =>
       GdP (isB t51_39 false) (fun R => LdC S_38 t55_42 R) fun t56_43 =>
       GdP (isB t51_39 false) (fun R => Bin Try.prog S_38 .neq 4 false false t54_41 t56_43 R) fun t57_44 =>
       Pick t51_39 (.bool true) t57_44 fun t58_45 =>
       GdP (isB t58_45 false) (fun R => FAd 1 f_10_34 R) fun t60_46 =>
       GdP (isB t58_45 false) (fun R => LdC S_38 t60_46 R) fun t61_47 =>
       GdP (isB t58_45 false) (fun R => FAd 4 k_5_10 R) fun t62_48 =>
       GdP (isB t58_45 false) (fun R => LdC S_38 t62_48 R) fun t63_49 =>
       Gd (isB t58_45 false) (fun R => CallF Try.prog 25 #[t61_47, t63_49] (World.drew w_37) R) (World.drew w_37) fun t64_50 w_51 =>
       S_38 w_51 ∧
       GdP (isB t58_45 false) (fun R => Un Try.prog S_38 .not t64_50 R) fun t65_52 =>
       Pick t58_45 (.bool true) t65_52 fun t66_53 =>
       GdP (isB t66_53 false) (fun R => FAd 2 f_10_34 R) fun t68_54 =>
       GdP (isB t66_53 false) (fun R => LdC S_38 t68_54 R) fun t69_55 =>
       GdP (isB t66_53 false) (fun R => FAd 5 k_5_10 R) fun t70_56 =>
       GdP (isB t66_53 false) (fun R => LdC S_38 t70_56 R) fun t71_57 =>
       Gd (isB t66_53 false) (fun R => CallF Try.prog 32 #[t69_55, t71_57] w_51 R) w_51 fun t72_58 w_59 =>
       S_38 w_59 ∧
       GdP (isB t66_53 false) (fun R => Un Try.prog S_38 .not t72_58 R) fun t73_60 =>
       Pick t66_53 (.bool true) t73_60 fun t74_61 =>
       GdP (isB t74_61 false) (fun R => R t47_31) fun t76_62 =>
       GdP (isB t74_61 false) (fun R => FAd 5 k_5_10 R) fun t78_63 =>
       GdP (isB t74_61 false) (fun R => LdC S_38 t78_63 R) fun t79_64 =>
       GdP (isB t74_61 false) (fun R => Len t79_64 R) fun t80_65 =>
       Gd (isB t74_61 false) (fun R => CallF Try.prog 22 #[t76_62] w_59 R) w_59 fun t77_66 w_67 =>
       S_38 w_67 ∧
       GdP (isB t74_61 false) (fun R => Bin Try.prog S_38 .neq 3 false false t77_66 t80_65 R) fun t81_68 =>
       Pick t74_61 (.bool true) t81_68 fun t82_69 =>
       GdP (isB t82_69 false) (fun R => R t47_31) fun t84_70 =>
       GdP (isB t82_69 false) (fun R => FAd 5 k_5_10 R) fun t86_71 =>
       GdP (isB t82_69 false) (fun R => LdC S_38 t86_71 R) fun t87_72 =>
       GdP (isB t82_69 false) (fun R => Len t87_72 R) fun t88_73 =>
       Gd (isB t82_69 false) (fun R => CallF Try.prog 23 #[t84_70] w_67 R) w_67 fun t85_74 w_75 =>
       S_38 w_75 ∧
       GdP (isB t82_69 false) (fun R => Bin Try.prog S_38 .neq 3 false false t85_74 t88_73 R) fun t89_76 =>
       Pick t82_69 (.bool true) t89_76 fun t90_77 =>
       If t90_77 (
        R (.bool false) w_75) (
        Bin Try.prog (At w_75) .add 3 false true t41_24 (.int .i64 1) fun t91_78 =>
        ∃ m_79, m_79 < m_22 ∧
        I_20 m_79 t4_23 t91_78 w_75)) (
       R (.bool true) w_25))) ∧
    ∃ (I_80 : Nat → Value → Value → World → Prop) (m_81 : Nat), I_80 m_81 (.bool false) (.int .i64 0) w_13 ∧
    ∀ m_82, ∀ t4_83, ∀ t24_84, ∀ w_85, I_80 m_82 t4_83 t24_84 w_85 →
     Bin Try.prog (At w_85) .lss 3 false false t24_84 t23_15 fun t25_86 =>
     If t25_86 (
      IAdS 3 x1 t24_84 fun t27_87 =>
      LdA (At w_85) 3 t27_87 fun t28_88 =>
      Do Try.prog (Instr.alloc 52 true (.tuple #[])) w_85 fun o_8_89 w_90 =>
      DoU Try.prog (Instr.storeAt 52 o_8_89 t28_88) w_90 fun u_91 w_92 =>
      Bin Try.prog (At w_92) .geq 3 false true t24_84 (.int .i64 100) fun t30_93 =>
      GdP (isB t30_93 false) (fun R => FAd 2 o_8_89 R) fun t32_94 =>
      GdP (isB t30_93 false) (fun R => LdC (At w_92) t32_94 R) fun t33_95 =>
      GdP (isB t30_93 false) (fun R => Len t33_95 R) fun t34_96 =>
      GdP (isB t30_93 false) (fun R => Bin Try.prog (At w_92) .gtr 3 false true t34_96 (.int .i64 1048576) R) fun t35_97 =>
      Pick t30_93 (.bool true) t35_97 fun t36_98 =>
      If t36_98 (
       J_16 t4_83 t24_84 w_92) (
       LdA (At w_92) 3 o_8_89 fun t37_99 =>
       CallF Try.prog 31 #[k_5_10, t37_99] w_92 fun t38_100 w_101 =>
       Un Try.prog (At w_101) .not t38_100 fun t39_102 =>
       If t39_102 (
        R (.bool false) w_101) (
        Bin Try.prog (At w_101) .add 3 false true t24_84 (.int .i64 1) fun t40_103 =>
        ∃ m_104, m_104 < m_82 ∧
        I_80 m_104 t4_83 t40_103 w_101))) (
      J_16 t4_83 t24_84 w_85)))
theorem C_furlonglaw15_StoreAgain_ent : Ent Try.prog 7 := ⟨_, Try.func7, by decide, rfl⟩
theorem C_furlonglaw15_StoreAgain_eq {x0 x1 : Value} {w : World} {R : Value → World → Prop} : (C_furlonglaw15_StoreAgain x0 x1 w R) = vFun Try.prog Try.f7 [0, 1, 4, 5, 6, 7, 8, 9, 10, 11, 13, 21, 22, 23, 24, 25, 36, 39, 41, 42, 90] [x0, x1] w R := by kernel_rfl
theorem C_furlonglaw15_StoreAgain_link {x0 x1 : Value} {w : World} {R : Value → World → Prop} (h : C_furlonglaw15_StoreAgain x0 x1 w R) : CallF Try.prog 7 #[x0, x1] w R :=
  callF_eq (fn := Try.f7) (L := [0, 1, 4, 5, 6, 7, 8, 9, 10, 11, 13, 21, 22, 23, 24, 25, 36, 39, 41, 42, 90]) (args := [x0, x1]) C_furlonglaw15_StoreAgain_ent Try.func7 (by kernel_rfl) C_furlonglaw15_StoreAgain_eq h

/-- furlong/furlonglaw15.awake: function 15 -/
def C_furlonglaw15_awake (w : World) (R : Value → World → Prop) : Prop :=
  CallF Try.prog 16 #[(.int .i64 1000)] w fun t10_1 w_2 =>
  Ext t10_1 0 fun t11_3 =>
  Ext t10_1 1 fun t12_4 =>
  CallF Try.prog 18 #[t11_3] w_2 fun t15_5 w_6 =>
  Ext t15_5 0 fun t16_7 =>
  Ext t15_5 1 fun t17_8 =>
  Ext t15_5 2 fun t18_9 =>
  Do Try.prog (Instr.alloc 33 true (.tuple #[])) w_6 fun f_4_10 w_11 =>
  DoU Try.prog (Instr.storeAt 33 f_4_10 t17_8) w_11 fun u_12 w_13 =>
  Bin Try.prog (At w_13) .neq 27 false true t12_4 (.int .i64 0) fun t20_14 =>
  GdP (isB t20_14 false) (fun R => R t18_9) fun t22_15 =>
  GdP (isB t20_14 false) (fun R => Bin Try.prog (At w_13) .neq 27 false true t22_15 (.int .i64 0) R) fun t23_16 =>
  Pick t20_14 (.bool true) t23_16 fun t24_17 =>
  GdP (isB t24_17 false) (fun R => R t16_7) fun t26_18 =>
  GdP (isB t24_17 false) (fun R => Bin Try.prog (At w_13) .eql 31 false true t26_18 (.pointer none) R) fun t27_19 =>
  Pick t24_17 (.bool true) t27_19 fun t28_20 =>
  GdP (isB t28_20 false) (fun R => FAd 0 f_4_10 R) fun t30_21 =>
  GdP (isB t28_20 false) (fun R => LdC (At w_13) t30_21 R) fun t31_22 =>
  Pick t28_20 (.bool true) t31_22 fun t32_23 =>
  GdP (isB t32_23 false) (fun R => R t16_7) fun t34_24 =>
  Gd (isB t32_23 false) (fun R => Do Try.prog (Instr.buildSlice 24 1 #[(0, (.int .u8 5))]) w_13 R) w_13 fun t35_25 w_26 =>
  Gd (isB t32_23 false) (fun R => CallF Try.prog 19 #[t34_24, t35_25] w_26 R) w_26 fun t36_27 w_28 =>
  GdP (isB t32_23 false) (fun R => Bin Try.prog (At w_28) .neq 27 false true t36_27 (.int .i64 0) R) fun t37_29 =>
  Pick t32_23 (.bool true) t37_29 fun t38_30 =>
  GdP (isB t38_30 false) (fun R => R t16_7) fun t40_31 =>
  Gd (isB t38_30 false) (fun R => CallF Try.prog 21 #[t40_31] w_28 R) w_28 fun t41_32 w_33 =>
  GdP (isB t38_30 false) (fun R => Bin Try.prog (At w_33) .neq 27 false true t41_32 (.int .i64 0) R) fun t42_34 =>
  Pick t38_30 (.bool true) t42_34 fun t43_35 =>
  GdP (isB t43_35 false) (fun R => R t16_7) fun t45_36 =>
  Gd (isB t43_35 false) (fun R => Do Try.prog (Instr.buildSlice 24 1 #[(0, (.int .u8 7))]) w_33 R) w_33 fun t46_37 w_38 =>
  Gd (isB t43_35 false) (fun R => CallF Try.prog 20 #[t45_36, t46_37] w_38 R) w_38 fun t47_39 w_40 =>
  GdP (isB t43_35 false) (fun R => Bin Try.prog (At w_40) .neq 27 false true t47_39 (.int .i64 0) R) fun t48_41 =>
  Pick t43_35 (.bool true) t48_41 fun t49_42 =>
  GdP (isB t49_42 false) (fun R => R t16_7) fun t51_43 =>
  Gd (isB t49_42 false) (fun R => Do Try.prog (Instr.buildSlice 24 1 #[(0, (.int .u8 6))]) w_40 R) w_40 fun t52_44 w_45 =>
  Gd (isB t49_42 false) (fun R => CallF Try.prog 19 #[t51_43, t52_44] w_45 R) w_45 fun t53_46 w_47 =>
  GdP (isB t49_42 false) (fun R => Bin Try.prog (At w_47) .neq 27 false true t53_46 (.int .i64 0) R) fun t54_48 =>
  Pick t49_42 (.bool true) t54_48 fun t55_49 =>
  GdP (isB t55_49 false) (fun R => R t16_7) fun t57_50 =>
  Gd (isB t55_49 false) (fun R => CallF Try.prog 21 #[t57_50] w_47 R) w_47 fun t58_51 w_52 =>
  GdP (isB t55_49 false) (fun R => Bin Try.prog (At w_52) .neq 27 false true t58_51 (.int .i64 0) R) fun t59_53 =>
  Pick t55_49 (.bool true) t59_53 fun t60_54 =>
  If t60_54 (
   R (.bool false) w_52) (
   CallF Try.prog 18 #[t11_3] w_52 fun t63_55 w_56 =>
   Ext t63_55 0 fun t64_57 =>
   Ext t63_55 1 fun t65_58 =>
   Ext t63_55 2 fun t66_59 =>
   Do Try.prog (Instr.alloc 33 true (.tuple #[])) w_56 fun h_7_60 w_61 =>
   DoU Try.prog (Instr.storeAt 33 h_7_60 t65_58) w_61 fun u_62 w_63 =>
   Bin Try.prog (At w_63) .eql 27 false true t66_59 (.int .i64 0) fun t68_64 =>
   GdP (isB t68_64 true) (fun R => FAd 0 h_7_60 R) fun t70_65 =>
   GdP (isB t68_64 true) (fun R => LdC (At w_63) t70_65 R) fun t71_66 =>
   Pick t68_64 t71_66 (.bool false) fun t72_67 =>
   GdP (isB t72_67 true) (fun R => FAd 1 h_7_60 R) fun t74_68 =>
   GdP (isB t72_67 true) (fun R => LdC (At w_63) t74_68 R) fun t75_69 =>
   Gd (isB t72_67 true) (fun R => Do Try.prog (Instr.buildSlice 24 1 #[(0, (.int .u8 7))]) w_63 R) w_63 fun t76_70 w_71 =>
   Gd (isB t72_67 true) (fun R => CallF Try.prog 25 #[t75_69, t76_70] w_71 R) w_71 fun t77_72 w_73 =>
   Pick t72_67 t77_72 (.bool false) fun t78_74 =>
   GdP (isB t78_74 true) (fun R => FAd 2 h_7_60 R) fun t80_75 =>
   GdP (isB t78_74 true) (fun R => LdC (At w_73) t80_75 R) fun t81_76 =>
   GdP (isB t78_74 true) (fun R => Len t81_76 R) fun t82_77 =>
   GdP (isB t78_74 true) (fun R => Bin Try.prog (At w_73) .eql 3 false true t82_77 (.int .i64 1) R) fun t83_78 =>
   Pick t78_74 t83_78 (.bool false) fun t84_79 =>
   GdP (isB t84_79 true) (fun R => FAd 2 h_7_60 R) fun t86_80 =>
   GdP (isB t84_79 true) (fun R => LdC (At w_73) t86_80 R) fun t87_81 =>
   GdP (isB t84_79 true) (fun R => IAdS 1 t87_81 (.int .i64 0) R) fun t88_82 =>
   GdP (isB t84_79 true) (fun R => LdC (At w_73) t88_82 R) fun t89_83 =>
   Gd (isB t84_79 true) (fun R => Do Try.prog (Instr.buildSlice 24 1 #[(0, (.int .u8 6))]) w_73 R) w_73 fun t90_84 w_85 =>
   Gd (isB t84_79 true) (fun R => CallF Try.prog 25 #[t89_83, t90_84] w_85 R) w_85 fun t91_86 w_87 =>
   Pick t84_79 t91_86 (.bool false) fun t92_88 =>
   R t92_88 w_87)
theorem C_furlonglaw15_awake_ent : Ent Try.prog 15 := ⟨_, Try.func15, by decide, rfl⟩
theorem C_furlonglaw15_awake_eq {w : World} {R : Value → World → Prop} : (C_furlonglaw15_awake w R) = vFun Try.prog Try.f15 [0, 1, 2, 3, 4, 5, 7, 8, 60] [] w R := by kernel_rfl
theorem C_furlonglaw15_awake_link {w : World} {R : Value → World → Prop} (h : C_furlonglaw15_awake w R) : CallF Try.prog 15 #[] w R :=
  callF_eq (fn := Try.f15) (L := [0, 1, 2, 3, 4, 5, 7, 8, 60]) (args := []) C_furlonglaw15_awake_ent Try.func15 (by kernel_rfl) C_furlonglaw15_awake_eq h

/-- furlong/disk.New: function 16 -/
def C_disk_New (x0 : Value) (w : World) (R : Value → World → Prop) : Prop :=
  Bin Try.prog (At w) .lss 3 false true x0 (.int .i64 1) fun t5_1 =>
  GdP (isB t5_1 false) (fun R => R x0) fun t7_2 =>
  GdP (isB t5_1 false) (fun R => Bin Try.prog (At w) .gtr 3 false true t7_2 (.int .i64 65536) R) fun t8_3 =>
  Pick t5_1 (.bool true) t8_3 fun t9_4 =>
  If t9_4 (
   R (.tuple #[(.pointer none), (.int .i64 1)]) w) (
   Do Try.prog (Instr.makeSlice 113 x0 x0) w fun t11_5 w_6 =>
   Bld Try.prog 116 [(0, t11_5)] fun t12_7 =>
   Do Try.prog (Instr.box 116 t12_7) w_6 fun t13_8 w_9 =>
   R (.tuple #[t13_8, (.int .i64 0)]) w_9)
theorem C_disk_New_ent : Ent Try.prog 16 := ⟨_, Try.func16, by decide, rfl⟩
theorem C_disk_New_eq {x0 : Value} {w : World} {R : Value → World → Prop} : (C_disk_New x0 w R) = vFun Try.prog Try.f16 [0, 2, 3, 9] [x0] w R := by kernel_rfl
theorem C_disk_New_link {x0 : Value} {w : World} {R : Value → World → Prop} (h : C_disk_New x0 w R) : CallF Try.prog 16 #[x0] w R :=
  callF_eq (fn := Try.f16) (L := [0, 2, 3, 9]) (args := [x0]) C_disk_New_ent Try.func16 (by kernel_rfl) C_disk_New_eq h

/-- (*furlong/disk.Disk).Write: function 17 -/
def C_disk_Disk_Write (x0 : Value) (x1 : Value) (x2 : Value) (w : World) (R : Value → World → Prop) : Prop :=
  Bin Try.prog (At w) .eql 26 false true x0 (.pointer none) fun t10_1 =>
  If t10_1 (
   R (.int .i64 17) w) (
   Bin Try.prog (At w) .lss 3 false true x1 (.int .i64 0) fun t13_2 =>
   GdP (isB t13_2 false) (fun R => R x1) fun t15_3 =>
   GdP (isB t13_2 false) (fun R => R x0) fun t16_4 =>
   GdP (isB t13_2 false) (fun R => NilC t16_4 R) fun t17_5 =>
   GdP (isB t13_2 false) (fun R => FAd 0 t17_5 R) fun t18_6 =>
   GdP (isB t13_2 false) (fun R => LdC (At w) t18_6 R) fun t19_7 =>
   GdP (isB t13_2 false) (fun R => Len t19_7 R) fun t20_8 =>
   GdP (isB t13_2 false) (fun R => Bin Try.prog (At w) .geq 3 false false t15_3 t20_8 R) fun t21_9 =>
   Pick t13_2 (.bool true) t21_9 fun t22_10 =>
   If t22_10 (
    R (.int .i64 8) w) (
    Len x2 fun t25_11 =>
    Bin Try.prog (At w) .gtr 3 false true t25_11 (.int .i64 64) fun t26_12 =>
    If t26_12 (
     R (.int .i64 3) w) (
     Do Try.prog (Instr.alloc 118 true (.tuple #[])) w fun b_7_13 w_14 =>
     SlcA 64 1 b_7_13 none none none fun t27_15 =>
     Do Try.prog (Builtin.copy_ #[24, 24] 3 #[t27_15, x2]) w_14 fun t29_16 w_17 =>
     ∃ S_18 : World → Prop, S_18 (World.drew w_17) ∧
     NilC x0 fun t32_19 =>
     FAd 1 t32_19 fun t33_20 =>
     LdC S_18 t33_20 fun t34_21 =>
     NilC x0 fun t37_22 =>
     FAd 0 t37_22 fun t38_23 =>
     LdC S_18 t38_23 fun t39_24 =>
     IAdS 64 t39_24 x1 fun t41_25 =>
     LdA S_18 64 t41_25 fun t42_26 =>
     LdA S_18 64 b_7_13 fun t43_27 =>
     Bld Try.prog 120 [(0, x1), (1, t42_26), (2, t43_27)] fun t44_28 =>
     Do Try.prog (Instr.buildSlice 114 1 #[(0, t44_28)]) (World.drew w_17) fun t45_29 w_30 =>
     S_18 w_30 ∧
     Do Try.prog (Builtin.append_ #[114, 114] 114 #[t34_21, t45_29]) w_30 fun t46_31 w_32 =>
     S_18 w_32 ∧
     NilC x0 fun t47_33 =>
     FAd 1 t47_33 fun t48_34 =>
     DoU Try.prog (Instr.storeAt 114 t48_34 t46_31) w_32 fun u_35 w_36 =>
     ∃ S_37 : World → Prop, S_37 (World.drew w_36) ∧
     NilC x0 fun t50_38 =>
     FAd 0 t50_38 fun t51_39 =>
     LdC S_37 t51_39 fun t52_40 =>
     LdA S_37 64 b_7_13 fun t54_41 =>
     IAdS 64 t52_40 x1 fun t55_42 =>
     DoU Try.prog (Instr.storeAt 118 t55_42 t54_41) (World.drew w_36) fun u_43 w_44 =>
     R (.int .i64 0) w_44)))
theorem C_disk_Disk_Write_ent : Ent Try.prog 17 := ⟨_, Try.func17, by decide, rfl⟩
theorem C_disk_Disk_Write_eq {x0 x1 x2 : Value} {w : World} {R : Value → World → Prop} : (C_disk_Disk_Write x0 x1 x2 w R) = vFun Try.prog Try.f17 [0, 1, 2, 6, 7, 8, 11, 23] [x0, x1, x2] w R := by kernel_rfl
theorem C_disk_Disk_Write_link {x0 x1 x2 : Value} {w : World} {R : Value → World → Prop} (h : C_disk_Disk_Write x0 x1 x2 w R) : CallF Try.prog 17 #[x0, x1, x2] w R :=
  callF_eq (fn := Try.f17) (L := [0, 1, 2, 6, 7, 8, 11, 23]) (args := [x0, x1, x2]) C_disk_Disk_Write_ent Try.func17 (by kernel_rfl) C_disk_Disk_Write_eq h

/-- furlong/store.Open: function 18 -/
def C_store_Open (x0 : Value) (w : World) (R : Value → World → Prop) : Prop :=
  Do Try.prog (Instr.alloc 33 true (.tuple #[])) w fun t3_1 w_2 =>
  Bin Try.prog (At w_2) .eql 26 false true x0 (.pointer none) fun t16_3 =>
  If t16_3 (
   Bld Try.prog 33 [] fun t17_4 =>
   DoU Try.prog (Instr.storeAt 33 t3_1 t17_4) w_2 fun u_5 w_6 =>
   LdA (At w_6) 3 t3_1 fun r_7 =>
   R (.tuple #[(.pointer none), r_7, (.int .i64 17)]) w_6) (
   CallF Try.prog 65 #[x0] w_2 fun t20_8 w_9 =>
   Bld Try.prog 124 [(0, x0), (2, t20_8)] fun t21_10 =>
   Do Try.prog (Instr.box 124 t21_10) w_9 fun t22_11 w_12 =>
   CallF Try.prog 66 #[x0] w_12 fun t25_13 w_14 =>
   Ext t25_13 0 fun t26_15 =>
   Ext t25_13 1 fun t27_16 =>
   Ext t25_13 2 fun t28_17 =>
   NilC t22_11 fun t31_18 =>
   FAd 1 t31_18 fun t32_19 =>
   DoU Try.prog (Instr.storeAt 121 t32_19 t26_15) w_14 fun u_20 w_21 =>
   Do Try.prog (Instr.alloc 24 true (.tuple #[])) w_21 fun all_9_22 w_23 =>
   CallF Try.prog 67 #[t22_11] w_23 fun t34_24 w_25 =>
   ∀ r_26 : Go.Loop, (∀ a_27, ∀ a_28, ∀ (w_29 : World) (k_30 : Value → World → Prop), w_29.heap[w_25.heap.size + 1]? = some (LO r_26 .ready none) → (
    w_29.heap[w_25.heap.size + 1]? = some (LO r_26 .ready none) ∧
    LdC (At (setO w_29 (w_25.heap.size + 1) (LO r_26 .busy none))) all_9_22 fun t37_31 =>
    Do Try.prog (Builtin.append_ #[24, 24] 24 #[t37_31, a_28]) (setO w_29 (w_25.heap.size + 1) (LO r_26 .busy none)) fun t39_32 w_33 =>
    DoU Try.prog (Instr.storeAt 24 all_9_22 t39_32) w_33 fun u_34 w_35 =>
    w_35.heap[w_25.heap.size + 1]? = some (LO r_26 .busy none) ∧
    k_30 (.bool true) (setO w_35 (w_25.heap.size + 1) (LO r_26 .ready none))) → CallV Try.prog (yv (w_25.heap.size + 1)) #[a_27, a_28] w_29 k_30) →
   CallE Try.prog t34_24 #[yv (w_25.heap.size + 1)] (loopW w_25 r_26) fun _ w_36 =>
    (∃ st_37, w_36.heap[w_25.heap.size + 1]? = some (LO r_26 st_37 none) ∧ st_37 ≠ .busy ∧
     Bld Try.prog 33 [(0, t28_17)] fun t41_38 =>
     Do Try.prog (Instr.alloc 33 true (.tuple #[])) (setO w_36 (w_25.heap.size + 1) (LO r_26 .exhausted none)) fun f_12_39 w_40 =>
     DoU Try.prog (Instr.storeAt 33 f_12_39 t41_38) w_40 fun u_41 w_42 =>
     LdC (At w_42) all_9_22 fun t43_43 =>
     Len t43_43 fun t44_44 =>
     Bin Try.prog (At w_42) .gtr 3 false false t27_16 t44_44 fun t45_45 =>
     ∃ J_46 : Value → World → Prop,
     (∀ size_7_47, ∀ w_48, J_46 size_7_47 w_48 → (
      LdC (At w_48) all_9_22 fun t47_49 =>
      SlcS 1 t47_49 none (some size_7_47) none fun t49_50 =>
      Do Try.prog (Builtin.append_ #[24, 24] 24 #[(.slice none 0 0), t49_50]) w_48 fun t50_51 w_52 =>
      FAd 1 f_12_39 fun t51_53 =>
      DoU Try.prog (Instr.storeAt 24 t51_53 t50_51) w_52 fun u_54 w_55 =>
      ∃ J_56 : Value → World → Prop,
      (∀ end_13_57, ∀ w_58, J_56 end_13_57 w_58 → (
       Bin Try.prog (At w_58) .quo 3 false true end_13_57 (.int .i64 55) fun t95_59 =>
       LdC (At w_58) all_9_22 fun t96_60 =>
       Bin Try.prog (At w_58) .quo 3 false true end_13_57 (.int .i64 55) fun t98_61 =>
       Bin Try.prog (At w_58) .mul 3 false true t98_61 (.int .i64 55) fun t99_62 =>
       SlcS 1 t96_60 (some t99_62) (some end_13_57) none fun t101_63 =>
       Do Try.prog (Builtin.append_ #[24, 24] 24 #[(.slice none 0 0), t101_63]) w_58 fun t102_64 w_65 =>
       NilC t22_11 fun t103_66 =>
       FAd 4 t103_66 fun t104_67 =>
       DoU Try.prog (Instr.storeAt 3 t104_67 t95_59) w_65 fun u_68 w_69 =>
       NilC t22_11 fun t105_70 =>
       FAd 3 t105_70 fun t106_71 =>
       DoU Try.prog (Instr.storeAt 24 t106_71 t102_64) w_69 fun u_72 w_73 =>
       ∃ S_74 : World → Prop, S_74 (World.drew w_73) ∧
       FAd 2 f_12_39 fun t109_75 =>
       LdC S_74 t109_75 fun t110_76 =>
       Len t110_76 fun t111_77 =>
       FAd 2 f_12_39 fun t112_78 =>
       LdC S_74 t112_78 fun t113_79 =>
       Len t113_79 fun t114_80 =>
       NilC t22_11 fun t115_81 =>
       FAd 5 t115_81 fun t116_82 =>
       DoU Try.prog (Instr.storeAt 3 t116_82 t111_77) (World.drew w_73) fun u_83 w_84 =>
       S_74 w_84 ∧
       NilC t22_11 fun t117_85 =>
       FAd 6 t117_85 fun t118_86 =>
       DoU Try.prog (Instr.storeAt 3 t118_86 t114_80) w_84 fun u_87 w_88 =>
       CallF Try.prog 69 #[x0] w_88 fun t120_89 w_90 =>
       ∃ S_91 : World → Prop, S_91 (World.drew w_90) ∧
       LdA S_91 3 f_12_39 fun t122_92 =>
       DoU Try.prog (Instr.storeAt 33 t3_1 t122_92) (World.drew w_90) fun u_93 w_94 =>
       w_94.heap[w_25.heap.size]? = some (.deferred (some [])) ∧
       LdA (At (setO w_94 w_25.heap.size (.deferred none))) 3 t3_1 fun r_95 =>
       R (.tuple #[t22_11, r_95, (.int .i64 0)]) (setO w_94 w_25.heap.size (.deferred none)))) ∧
      ∃ (I_96 : Nat → Value → World → Prop) (m_97 : Nat), I_96 m_97 size_7_47 w_55 ∧
      ∀ m_98, ∀ end_13_99, ∀ w_100, I_96 m_98 end_13_99 w_100 →
       LdC (At w_100) all_9_22 fun t53_101 =>
       Len t53_101 fun t54_102 =>
       Bin Try.prog (At w_100) .sub 3 false false t54_102 end_13_99 fun t56_103 =>
       Bin Try.prog (At w_100) .geq 3 false true t56_103 (.int .i64 4) fun t57_104 =>
       If t57_104 (
        LdC (At w_100) all_9_22 fun t58_105 =>
        SlcS 1 t58_105 (some end_13_99) none none fun t60_106 =>
        CallF Try.prog 68 #[t60_106] w_100 fun t61_107 w_108 =>
        ConvI .i64 t61_107 fun t62_109 =>
        Bin Try.prog (At w_108) .gtr 3 false true t62_109 (.int .i64 65536) fun t64_110 =>
        GdP (isB t64_110 false) (fun R => R t62_109) fun t66_111 =>
        GdP (isB t64_110 false) (fun R => LdC (At w_108) all_9_22 R) fun t67_112 =>
        GdP (isB t64_110 false) (fun R => Len t67_112 R) fun t68_113 =>
        GdP (isB t64_110 false) (fun R => R end_13_99) fun t69_114 =>
        GdP (isB t64_110 false) (fun R => Bin Try.prog (At w_108) .sub 3 false false t68_113 t69_114 R) fun t70_115 =>
        GdP (isB t64_110 false) (fun R => Bin Try.prog (At w_108) .sub 3 false true t70_115 (.int .i64 4) R) fun t71_116 =>
        GdP (isB t64_110 false) (fun R => Bin Try.prog (At w_108) .gtr 3 false false t66_111 t71_116 R) fun t72_117 =>
        Pick t64_110 (.bool true) t72_117 fun t73_118 =>
        If t73_118 (
         ([w_25.heap.size] : List Nat) = [w_25.heap.size] ∧
         J_56 end_13_99 w_108) (
         ∃ S_119 : World → Prop, S_119 (World.drew w_108) ∧
         FAd 2 f_12_39 fun t74_120 =>
         LdC S_119 t74_120 fun t75_121 =>
         LdC S_119 all_9_22 fun t76_122 =>
         Bin Try.prog S_119 .add 3 false true end_13_99 (.int .i64 4) fun t78_123 =>
         Bin Try.prog S_119 .add 3 false true end_13_99 (.int .i64 4) fun t80_124 =>
         Bin Try.prog S_119 .add 3 false false t80_124 t62_109 fun t82_125 =>
         SlcS 1 t76_122 (some t78_123) (some t82_125) none fun t83_126 =>
         Do Try.prog (Builtin.append_ #[24, 24] 24 #[(.slice none 0 0), t83_126]) (World.drew w_108) fun t84_127 w_128 =>
         S_119 w_128 ∧
         Do Try.prog (Instr.buildSlice 23 1 #[(0, t84_127)]) w_128 fun t85_129 w_130 =>
         S_119 w_130 ∧
         Do Try.prog (Builtin.append_ #[23, 23] 23 #[t75_121, t85_129]) w_130 fun t86_131 w_132 =>
         S_119 w_132 ∧
         FAd 2 f_12_39 fun t87_133 =>
         DoU Try.prog (Instr.storeAt 23 t87_133 t86_131) w_132 fun u_134 w_135 =>
         Bin Try.prog (At w_135) .add 3 true false (.int .i64 4) t62_109 fun t90_136 =>
         Bin Try.prog (At w_135) .add 3 false false end_13_99 t90_136 fun t91_137 =>
         ∃ m_138, m_138 < m_98 ∧
         ([w_25.heap.size] : List Nat) = [w_25.heap.size] ∧
         I_96 m_138 t91_137 w_135)) (
        ([w_25.heap.size] : List Nat) = [w_25.heap.size] ∧
        J_56 end_13_99 w_100))) ∧
     If t45_45 (
      Bld Try.prog 33 [] fun t46_139 =>
      DoU Try.prog (Instr.storeAt 33 f_12_39 t46_139) w_42 fun u_140 w_141 =>
      DoU Try.prog (Instr.storeAt 24 all_9_22 (.slice none 0 0)) w_141 fun u_142 w_143 =>
      ([w_25.heap.size] : List Nat) = [w_25.heap.size] ∧
      J_46 (.int .i64 0) w_143) (
      ([w_25.heap.size] : List Nat) = [w_25.heap.size] ∧
      J_46 t27_16 w_42)))
theorem C_store_Open_ent : Ent Try.prog 18 := ⟨_, Try.func18, by decide, rfl⟩
theorem C_store_Open_eq {x0 : Value} {w : World} {R : Value → World → Prop} : (C_store_Open x0 w R) = vFun Try.prog Try.f18 [0, 2, 3, 4, 5, 6, 7, 8, 9, 11, 12, 13, 14, 16, 34, 36, 45, 57, 73] [x0] w R := by kernel_rfl
theorem C_store_Open_link {x0 : Value} {w : World} {R : Value → World → Prop} (h : C_store_Open x0 w R) : CallF Try.prog 18 #[x0] w R :=
  callF_eq (fn := Try.f18) (L := [0, 2, 3, 4, 5, 6, 7, 8, 9, 11, 12, 13, 14, 16, 34, 36, 45, 57, 73]) (args := [x0]) C_store_Open_ent Try.func18 (by kernel_rfl) C_store_Open_eq h

/-- (*furlong/store.Store).Append: function 19 -/
def C_store_Store_Append (x0 : Value) (x1 : Value) (w : World) (R : Value → World → Prop) : Prop :=
  Bin Try.prog (At w) .eql 31 false true x0 (.pointer none) fun t7_1 =>
  If t7_1 (
   R (.int .i64 17) w) (
   Len x1 fun t10_2 =>
   Bin Try.prog (At w) .gtr 3 false true t10_2 (.int .i64 65536) fun t11_3 =>
   If t11_3 (
    R (.int .i64 3) w) (
    Len x1 fun t15_4 =>
    Bin Try.prog (At w) .add 3 false true t15_4 (.int .i64 4) fun t16_5 =>
    CallF Try.prog 70 #[x0, t16_5] w fun t17_6 w_7 =>
    Un Try.prog (At w_7) .not t17_6 fun t18_8 =>
    If t18_8 (
     R (.int .i64 10) w_7) (
     Len x1 fun t21_9 =>
     ConvI .u32 t21_9 fun t22_10 =>
     CallF Try.prog 72 #[(.slice none 0 0), t22_10] w_7 fun t23_11 w_12 =>
     Do Try.prog (Builtin.append_ #[24, 24] 24 #[t23_11, x1]) w_12 fun t25_13 w_14 =>
     CallF Try.prog 71 #[x0, t25_13] w_14 fun t26_15 w_16 =>
     NilC x0 fun t28_17 =>
     FAd 5 t28_17 fun t29_18 =>
     LdC (At w_16) t29_18 fun t30_19 =>
     Bin Try.prog (At w_16) .add 3 false true t30_19 (.int .i64 1) fun t31_20 =>
     NilC x0 fun t32_21 =>
     FAd 5 t32_21 fun t33_22 =>
     DoU Try.prog (Instr.storeAt 3 t33_22 t31_20) w_16 fun u_23 w_24 =>
     R (.int .i64 0) w_24)))
theorem C_store_Store_Append_ent : Ent Try.prog 19 := ⟨_, Try.func19, by decide, rfl⟩
theorem C_store_Store_Append_eq {x0 x1 : Value} {w : World} {R : Value → World → Prop} : (C_store_Store_Append x0 x1 w R) = vFun Try.prog Try.f19 [0, 1, 4, 5, 8, 12] [x0, x1] w R := by kernel_rfl
theorem C_store_Store_Append_link {x0 x1 : Value} {w : World} {R : Value → World → Prop} (h : C_store_Store_Append x0 x1 w R) : CallF Try.prog 19 #[x0, x1] w R :=
  callF_eq (fn := Try.f19) (L := [0, 1, 4, 5, 8, 12]) (args := [x0, x1]) C_store_Store_Append_ent Try.func19 (by kernel_rfl) C_store_Store_Append_eq h

/-- (*furlong/store.Store).Checkpoint: function 20 -/
def C_store_Store_Checkpoint (x0 : Value) (x1 : Value) (w : World) (R : Value → World → Prop) : Prop :=
  Bin Try.prog (At w) .eql 31 false true x0 (.pointer none) fun t8_1 =>
  If t8_1 (
   R (.int .i64 17) w) (
   Len x1 fun t11_2 =>
   Bin Try.prog (At w) .gtr 3 false true t11_2 (.int .i64 524288) fun t12_3 =>
   If t12_3 (
    R (.int .i64 3) w) (
    Len x1 fun t15_4 =>
    CallF Try.prog 73 #[x0] w fun t17_5 w_6 =>
    Bin Try.prog (At w_6) .mul 3 false true t17_5 (.int .i64 55) fun t18_7 =>
    Bin Try.prog (At w_6) .gtr 3 false false t15_4 t18_7 fun t19_8 =>
    If t19_8 (
     R (.int .i64 10) w_6) (
     NilC x0 fun t21_9 =>
     FAd 0 t21_9 fun t22_10 =>
     LdC (At w_6) t22_10 fun t23_11 =>
     CallF Try.prog 69 #[t23_11] w_6 fun t24_12 w_13 =>
     NilC x0 fun t26_14 =>
     FAd 1 t26_14 fun t27_15 =>
     LdC (At w_13) t27_15 fun t28_16 =>
     Bin Try.prog (At w_13) .add 121 false true t28_16 (.int .u32 1) fun t29_17 =>
     NilC x0 fun t30_18 =>
     FAd 1 t30_18 fun t31_19 =>
     DoU Try.prog (Instr.storeAt 121 t31_19 t29_17) w_13 fun u_20 w_21 =>
     NilC x0 fun t36_22 =>
     FAd 4 t36_22 fun t37_23 =>
     DoU Try.prog (Instr.storeAt 3 t37_23 (.int .i64 0)) w_21 fun u_24 w_25 =>
     NilC x0 fun t38_26 =>
     FAd 3 t38_26 fun t39_27 =>
     DoU Try.prog (Instr.storeAt 24 t39_27 (.slice none 0 0)) w_25 fun u_28 w_29 =>
     NilC x0 fun t40_30 =>
     FAd 5 t40_30 fun t41_31 =>
     DoU Try.prog (Instr.storeAt 3 t41_31 (.int .i64 0)) w_29 fun u_32 w_33 =>
     NilC x0 fun t42_34 =>
     FAd 6 t42_34 fun t43_35 =>
     DoU Try.prog (Instr.storeAt 3 t43_35 (.int .i64 0)) w_33 fun u_36 w_37 =>
     CallF Try.prog 71 #[x0, x1] w_37 fun t46_38 w_39 =>
     NilC x0 fun t48_40 =>
     FAd 0 t48_40 fun t49_41 =>
     LdC (At w_39) t49_41 fun t50_42 =>
     CallF Try.prog 69 #[t50_42] w_39 fun t51_43 w_44 =>
     Do Try.prog (Instr.buildSlice 24 8 #[(0, (.int .u8 102)), (1, (.int .u8 117)), (2, (.int .u8 114)), (3, (.int .u8 108)), (4, (.int .u8 111)), (5, (.int .u8 110)), (6, (.int .u8 103)), (7, (.int .u8 49))]) w_44 fun t52_45 w_46 =>
     Do Try.prog (convert 24 24 t52_45) w_46 fun t53_47 w_48 =>
     NilC x0 fun t55_49 =>
     FAd 1 t55_49 fun t56_50 =>
     LdC (At w_48) t56_50 fun t57_51 =>
     CallF Try.prog 72 #[t53_47, t57_51] w_48 fun t58_52 w_53 =>
     ∃ S_54 : World → Prop, S_54 (World.drew w_53) ∧
     NilC x0 fun t60_55 =>
     FAd 0 t60_55 fun t61_56 =>
     LdC S_54 t61_56 fun t62_57 =>
     NilC x0 fun t64_58 =>
     FAd 1 t64_58 fun t65_59 =>
     LdC S_54 t65_59 fun t66_60 =>
     Bin Try.prog S_54 .rem 121 false true t66_60 (.int .u32 2) fun t67_61 =>
     ConvI .i64 t67_61 fun t68_62 =>
     Len x1 fun t71_63 =>
     ConvI .u32 t71_63 fun t72_64 =>
     CallF Try.prog 72 #[t58_52, t72_64] (World.drew w_53) fun t73_65 w_66 =>
     S_54 w_66 ∧
     CallF Try.prog 17 #[t62_57, t68_62, t73_65] w_66 fun t74_67 w_68 =>
     S_54 w_68 ∧
     NilC x0 fun t76_69 =>
     FAd 0 t76_69 fun t77_70 =>
     LdC (At w_68) t77_70 fun t78_71 =>
     CallF Try.prog 69 #[t78_71] w_68 fun t79_72 w_73 =>
     R (.int .i64 0) w_73)))
theorem C_store_Store_Checkpoint_ent : Ent Try.prog 20 := ⟨_, Try.func20, by decide, rfl⟩
theorem C_store_Store_Checkpoint_eq {x0 x1 : Value} {w : World} {R : Value → World → Prop} : (C_store_Store_Checkpoint x0 x1 w R) = vFun Try.prog Try.f20 [0, 1, 4, 5, 6, 9, 13] [x0, x1] w R := by kernel_rfl
theorem C_store_Store_Checkpoint_link {x0 x1 : Value} {w : World} {R : Value → World → Prop} (h : C_store_Store_Checkpoint x0 x1 w R) : CallF Try.prog 20 #[x0, x1] w R :=
  callF_eq (fn := Try.f20) (L := [0, 1, 4, 5, 6, 9, 13]) (args := [x0, x1]) C_store_Store_Checkpoint_ent Try.func20 (by kernel_rfl) C_store_Store_Checkpoint_eq h

/-- (*furlong/store.Store).Sync: function 21 -/
def C_store_Store_Sync (x0 : Value) (w : World) (R : Value → World → Prop) : Prop :=
  Bin Try.prog (At w) .eql 31 false true x0 (.pointer none) fun t4_1 =>
  If t4_1 (
   R (.int .i64 17) w) (
   NilC x0 fun t6_2 =>
   FAd 0 t6_2 fun t7_3 =>
   LdC (At w) t7_3 fun t8_4 =>
   CallF Try.prog 69 #[t8_4] w fun t9_5 w_6 =>
   NilC x0 fun t12_7 =>
   FAd 5 t12_7 fun t13_8 =>
   LdC (At w_6) t13_8 fun t14_9 =>
   NilC x0 fun t15_10 =>
   FAd 6 t15_10 fun t16_11 =>
   DoU Try.prog (Instr.storeAt 3 t16_11 t14_9) w_6 fun u_12 w_13 =>
   R (.int .i64 0) w_13)
theorem C_store_Store_Sync_ent : Ent Try.prog 21 := ⟨_, Try.func21, by decide, rfl⟩
theorem C_store_Store_Sync_eq {x0 : Value} {w : World} {R : Value → World → Prop} : (C_store_Store_Sync x0 w R) = vFun Try.prog Try.f21 [0, 2, 4] [x0] w R := by kernel_rfl
theorem C_store_Store_Sync_link {x0 : Value} {w : World} {R : Value → World → Prop} (h : C_store_Store_Sync x0 w R) : CallF Try.prog 21 #[x0] w R :=
  callF_eq (fn := Try.f21) (L := [0, 2, 4]) (args := [x0]) C_store_Store_Sync_ent Try.func21 (by kernel_rfl) C_store_Store_Sync_eq h

/-- (*furlong/store.Store).Len: function 22 -/
def C_store_Store_Len (x0 : Value) (w : World) (R : Value → World → Prop) : Prop :=
  Bin Try.prog (At w) .eql 31 false true x0 (.pointer none) fun t4_1 =>
  If t4_1 (
   R (.int .i64 0) w) (
   NilC x0 fun t6_2 =>
   FAd 5 t6_2 fun t7_3 =>
   LdC (At w) t7_3 fun t8_4 =>
   R t8_4 w)
theorem C_store_Store_Len_ent : Ent Try.prog 22 := ⟨_, Try.func22, by decide, rfl⟩
theorem C_store_Store_Len_eq {x0 : Value} {w : World} {R : Value → World → Prop} : (C_store_Store_Len x0 w R) = vFun Try.prog Try.f22 [0, 2, 4] [x0] w R := by kernel_rfl
theorem C_store_Store_Len_link {x0 : Value} {w : World} {R : Value → World → Prop} (h : C_store_Store_Len x0 w R) : CallF Try.prog 22 #[x0] w R :=
  callF_eq (fn := Try.f22) (L := [0, 2, 4]) (args := [x0]) C_store_Store_Len_ent Try.func22 (by kernel_rfl) C_store_Store_Len_eq h

/-- (*furlong/store.Store).Safe: function 23 -/
def C_store_Store_Safe (x0 : Value) (w : World) (R : Value → World → Prop) : Prop :=
  Bin Try.prog (At w) .eql 31 false true x0 (.pointer none) fun t4_1 =>
  If t4_1 (
   R (.int .i64 0) w) (
   NilC x0 fun t6_2 =>
   FAd 6 t6_2 fun t7_3 =>
   LdC (At w) t7_3 fun t8_4 =>
   R t8_4 w)
theorem C_store_Store_Safe_ent : Ent Try.prog 23 := ⟨_, Try.func23, by decide, rfl⟩
theorem C_store_Store_Safe_eq {x0 : Value} {w : World} {R : Value → World → Prop} : (C_store_Store_Safe x0 w R) = vFun Try.prog Try.f23 [0, 2, 4] [x0] w R := by kernel_rfl
theorem C_store_Store_Safe_link {x0 : Value} {w : World} {R : Value → World → Prop} (h : C_store_Store_Safe x0 w R) : CallF Try.prog 23 #[x0] w R :=
  callF_eq (fn := Try.f23) (L := [0, 2, 4]) (args := [x0]) C_store_Store_Safe_ent Try.func23 (by kernel_rfl) C_store_Store_Safe_eq h

/-- furlong/furlongref01.Twin: function 24 -/
def C_furlongref01_Twin (x0 : Value) (w : World) (R : Value → World → Prop) : Prop :=
  Do Try.prog (Instr.buildSlice 24 0 #[]) w fun t3_1 w_2 =>
  Do Try.prog (Builtin.append_ #[24, 24] 24 #[t3_1, x0]) w_2 fun t5_3 w_4 =>
  R t5_3 w_4
theorem C_furlongref01_Twin_ent : Ent Try.prog 24 := ⟨_, Try.func24, by decide, rfl⟩
theorem C_furlongref01_Twin_eq {x0 : Value} {w : World} {R : Value → World → Prop} : (C_furlongref01_Twin x0 w R) = vFun Try.prog Try.f24 [0, 2] [x0] w R := by kernel_rfl
theorem C_furlongref01_Twin_link {x0 : Value} {w : World} {R : Value → World → Prop} (h : C_furlongref01_Twin x0 w R) : CallF Try.prog 24 #[x0] w R :=
  callF_eq (fn := Try.f24) (L := [0, 2]) (args := [x0]) C_furlongref01_Twin_ent Try.func24 (by kernel_rfl) C_furlongref01_Twin_eq h

/-- furlong/furlongref01.Bytes: function 25 -/
def C_furlongref01_Bytes (x0 : Value) (x1 : Value) (w : World) (R : Value → World → Prop) : Prop :=
  Do Try.prog (convert 24 9 x0) w fun t6_1 w_2 =>
  Do Try.prog (convert 24 9 x1) w_2 fun t8_3 w_4 =>
  Bin Try.prog (At w_4) .eql 9 false false t6_1 t8_3 fun t9_5 =>
  R t9_5 w_4
theorem C_furlongref01_Bytes_ent : Ent Try.prog 25 := ⟨_, Try.func25, by decide, rfl⟩
theorem C_furlongref01_Bytes_eq {x0 x1 : Value} {w : World} {R : Value → World → Prop} : (C_furlongref01_Bytes x0 x1 w R) = vFun Try.prog Try.f25 [0, 1, 4] [x0, x1] w R := by kernel_rfl
theorem C_furlongref01_Bytes_link {x0 x1 : Value} {w : World} {R : Value → World → Prop} (h : C_furlongref01_Bytes x0 x1 w R) : CallF Try.prog 25 #[x0, x1] w R :=
  callF_eq (fn := Try.f25) (L := [0, 1, 4]) (args := [x0, x1]) C_furlongref01_Bytes_ent Try.func25 (by kernel_rfl) C_furlongref01_Bytes_eq h

/-- furlong/furlonglaw15.begin: function 26 -/
def C_furlonglaw15_begin (x0 : Value) (w : World) (R : Value → World → Prop) : Prop :=
  Do Try.prog (Instr.alloc 44 true (.tuple #[])) w fun t2_1 w_2 =>
  CallF Try.prog 16 #[x0] w_2 fun t11_3 w_4 =>
  Ext t11_3 0 fun t12_5 =>
  Ext t11_3 1 fun t13_6 =>
  CallF Try.prog 18 #[t12_5] w_4 fun t16_7 w_8 =>
  Ext t16_7 0 fun t17_9 =>
  Ext t16_7 1 fun t18_10 =>
  Ext t16_7 2 fun t19_11 =>
  Do Try.prog (Instr.alloc 33 true (.tuple #[])) w_8 fun f_7_12 w_13 =>
  DoU Try.prog (Instr.storeAt 33 f_7_12 t18_10) w_13 fun u_14 w_15 =>
  ∃ S_16 : World → Prop, S_16 (World.drew w_15) ∧
  Bin Try.prog S_16 .mul 3 true false (.int .i64 16) x0 fun t23_17 =>
  Bin Try.prog S_16 .sub 3 false true t23_17 (.int .i64 1024) fun t24_18 =>
  Bld Try.prog 44 [(0, t12_5), (1, t17_9), (2, t24_18)] fun t25_19 =>
  Bin Try.prog S_16 .eql 27 false true t13_6 (.int .i64 0) fun t27_20 =>
  GdP (isB t27_20 true) (fun R => R t19_11) fun t29_21 =>
  GdP (isB t27_20 true) (fun R => Bin Try.prog S_16 .eql 27 false true t29_21 (.int .i64 0) R) fun t30_22 =>
  Pick t27_20 t30_22 (.bool false) fun t31_23 =>
  GdP (isB t31_23 true) (fun R => R t17_9) fun t33_24 =>
  GdP (isB t31_23 true) (fun R => Bin Try.prog S_16 .neq 31 false true t33_24 (.pointer none) R) fun t34_25 =>
  Pick t31_23 t34_25 (.bool false) fun t35_26 =>
  GdP (isB t35_26 true) (fun R => FAd 0 f_7_12 R) fun t37_27 =>
  GdP (isB t35_26 true) (fun R => LdC S_16 t37_27 R) fun t38_28 =>
  GdP (isB t35_26 true) (fun R => Un Try.prog S_16 .not t38_28 R) fun t39_29 =>
  Pick t35_26 t39_29 (.bool false) fun t40_30 =>
  GdP (isB t40_30 true) (fun R => FAd 2 f_7_12 R) fun t42_31 =>
  GdP (isB t40_30 true) (fun R => LdC S_16 t42_31 R) fun t43_32 =>
  GdP (isB t40_30 true) (fun R => Len t43_32 R) fun t44_33 =>
  GdP (isB t40_30 true) (fun R => FAd 1 f_7_12 R) fun t45_34 =>
  GdP (isB t40_30 true) (fun R => LdC S_16 t45_34 R) fun t46_35 =>
  GdP (isB t40_30 true) (fun R => Len t46_35 R) fun t47_36 =>
  GdP (isB t40_30 true) (fun R => Bin Try.prog S_16 .add 3 false false t44_33 t47_36 R) fun t48_37 =>
  GdP (isB t40_30 true) (fun R => Bin Try.prog S_16 .eql 3 false true t48_37 (.int .i64 0) R) fun t49_38 =>
  Pick t40_30 t49_38 (.bool false) fun t50_39 =>
  DoU Try.prog (Instr.storeAt 44 t2_1 t25_19) (World.drew w_15) fun u_40 w_41 =>
  S_16 w_41 ∧
  LdA (At w_41) 8 t2_1 fun r_42 =>
  R (.tuple #[r_42, t50_39]) w_41
theorem C_furlonglaw15_begin_ent : Ent Try.prog 26 := ⟨_, Try.func26, by decide, rfl⟩
theorem C_furlonglaw15_begin_eq {x0 : Value} {w : World} {R : Value → World → Prop} : (C_furlonglaw15_begin x0 w R) = vFun Try.prog Try.f26 [0, 2, 3, 4, 5, 6, 7, 8] [x0] w R := by kernel_rfl
theorem C_furlonglaw15_begin_link {x0 : Value} {w : World} {R : Value → World → Prop} (h : C_furlonglaw15_begin x0 w R) : CallF Try.prog 26 #[x0] w R :=
  callF_eq (fn := Try.f26) (L := [0, 2, 3, 4, 5, 6, 7, 8]) (args := [x0]) C_furlonglaw15_begin_ent Try.func26 (by kernel_rfl) C_furlonglaw15_begin_eq h

/-- (*furlong/furlonglaw15.desk).append: function 27 -/
def C_furlonglaw15_desk_append (x0 : Value) (x1 : Value) (w : World) (R : Value → World → Prop) : Prop :=
  NilC x0 fun t7_1 =>
  FAd 1 t7_1 fun t8_2 =>
  LdC (At w) t8_2 fun t9_3 =>
  CallF Try.prog 19 #[t9_3, x1] w fun t11_4 w_5 =>
  Len x1 fun t13_6 =>
  Bin Try.prog (At w_5) .gtr 3 false true t13_6 (.int .i64 65536) fun t14_7 =>
  If t14_7 (
   Bin Try.prog (At w_5) .eql 27 false true t11_4 (.int .i64 3) fun t16_8 =>
   R t16_8 w_5) (
   Bin Try.prog (At w_5) .eql 27 false true t11_4 (.int .i64 10) fun t18_9 =>
   If t18_9 (
    ∃ S_10 : World → Prop, S_10 (World.drew w_5) ∧
    NilC x0 fun t20_11 =>
    FAd 7 t20_11 fun t21_12 =>
    LdC S_10 t21_12 fun t22_13 =>
    Len x1 fun t24_14 =>
    Bin Try.prog S_10 .add 3 false false t22_13 t24_14 fun t25_15 =>
    Bin Try.prog S_10 .add 3 false true t25_15 (.int .i64 32) fun t26_16 =>
    NilC x0 fun t28_17 =>
    FAd 2 t28_17 fun t29_18 =>
    LdC S_10 t29_18 fun t30_19 =>
    Bin Try.prog S_10 .gtr 3 false false t26_16 t30_19 fun t31_20 =>
    R t31_20 (World.drew w_5)) (
    Do Try.prog (Instr.buildSlice 23 0 #[]) w_5 fun t33_21 w_22 =>
    NilC x0 fun t35_23 =>
    FAd 5 t35_23 fun t36_24 =>
    LdC (At w_22) t36_24 fun t37_25 =>
    Do Try.prog (Builtin.append_ #[23, 23] 23 #[t33_21, t37_25]) w_22 fun t38_26 w_27 =>
    CallF Try.prog 24 #[x1] w_27 fun t40_28 w_29 =>
    Do Try.prog (Instr.buildSlice 23 1 #[(0, t40_28)]) w_29 fun t41_30 w_31 =>
    Do Try.prog (Builtin.append_ #[23, 23] 23 #[t38_26, t41_30]) w_31 fun t42_32 w_33 =>
    NilC x0 fun t43_34 =>
    FAd 5 t43_34 fun t44_35 =>
    DoU Try.prog (Instr.storeAt 23 t44_35 t42_32) w_33 fun u_36 w_37 =>
    NilC x0 fun t46_38 =>
    FAd 7 t46_38 fun t47_39 =>
    LdC (At w_37) t47_39 fun t48_40 =>
    Len x1 fun t50_41 =>
    Bin Try.prog (At w_37) .add 3 false true t50_41 (.int .i64 32) fun t51_42 =>
    Bin Try.prog (At w_37) .add 3 false false t48_40 t51_42 fun t52_43 =>
    NilC x0 fun t53_44 =>
    FAd 7 t53_44 fun t54_45 =>
    DoU Try.prog (Instr.storeAt 3 t54_45 t52_43) w_37 fun u_46 w_47 =>
    Bin Try.prog (At w_47) .eql 27 false true t11_4 (.int .i64 0) fun t56_48 =>
    R t56_48 w_47))
theorem C_furlonglaw15_desk_append_ent : Ent Try.prog 27 := ⟨_, Try.func27, by decide, rfl⟩
theorem C_furlonglaw15_desk_append_eq {x0 x1 : Value} {w : World} {R : Value → World → Prop} : (C_furlonglaw15_desk_append x0 x1 w R) = vFun Try.prog Try.f27 [0, 1, 4, 5, 14, 18] [x0, x1] w R := by kernel_rfl
theorem C_furlonglaw15_desk_append_link {x0 x1 : Value} {w : World} {R : Value → World → Prop} (h : C_furlonglaw15_desk_append x0 x1 w R) : CallF Try.prog 27 #[x0, x1] w R :=
  callF_eq (fn := Try.f27) (L := [0, 1, 4, 5, 14, 18]) (args := [x0, x1]) C_furlonglaw15_desk_append_ent Try.func27 (by kernel_rfl) C_furlonglaw15_desk_append_eq h

/-- (*furlong/furlonglaw15.desk).crash: function 28 -/
def C_furlonglaw15_desk_crash (x0 : Value) (x1 : Value) (w : World) (R : Value → World → Prop) : Prop :=
  NilC x0 fun t13_1 =>
  FAd 0 t13_1 fun t14_2 =>
  LdC (At w) t14_2 fun t15_3 =>
  CallF Try.prog 74 #[t15_3] w fun t16_4 w_5 =>
  NilC x0 fun t18_6 =>
  FAd 0 t18_6 fun t19_7 =>
  LdC (At w_5) t19_7 fun t20_8 =>
  CallF Try.prog 39 #[t20_8, x1] w_5 fun t22_9 w_10 =>
  Bin Try.prog (At w_10) .neq 27 false true t22_9 (.int .i64 0) fun t23_11 =>
  If t23_11 (
   R (.bool false) w_10) (
   NilC x0 fun t26_12 =>
   FAd 0 t26_12 fun t27_13 =>
   LdC (At w_10) t27_13 fun t28_14 =>
   CallF Try.prog 18 #[t28_14] w_10 fun t29_15 w_16 =>
   Ext t29_15 0 fun t30_17 =>
   Ext t29_15 1 fun t31_18 =>
   Ext t29_15 2 fun t32_19 =>
   Do Try.prog (Instr.alloc 33 true (.tuple #[])) w_16 fun f_7_20 w_21 =>
   DoU Try.prog (Instr.storeAt 33 f_7_20 t31_18) w_21 fun u_22 w_23 =>
   FAd 2 f_7_20 fun t33_24 =>
   LdC (At w_23) t33_24 fun t34_25 =>
   Len t34_25 fun t35_26 =>
   ∃ S_27 : World → Prop, S_27 (World.drew w_23) ∧
   Bin Try.prog S_27 .neq 27 false true t32_19 (.int .i64 0) fun t37_28 =>
   GdP (isB t37_28 false) (fun R => R t30_17) fun t39_29 =>
   GdP (isB t37_28 false) (fun R => Bin Try.prog S_27 .eql 31 false true t39_29 (.pointer none) R) fun t40_30 =>
   Pick t37_28 (.bool true) t40_30 fun t41_31 =>
   GdP (isB t41_31 false) (fun R => FAd 0 f_7_20 R) fun t43_32 =>
   GdP (isB t41_31 false) (fun R => LdC S_27 t43_32 R) fun t44_33 =>
   GdP (isB t41_31 false) (fun R => R x0) fun t45_34 =>
   GdP (isB t41_31 false) (fun R => NilC t45_34 R) fun t46_35 =>
   GdP (isB t41_31 false) (fun R => FAd 3 t46_35 R) fun t47_36 =>
   GdP (isB t41_31 false) (fun R => LdC S_27 t47_36 R) fun t48_37 =>
   GdP (isB t41_31 false) (fun R => Bin Try.prog S_27 .neq 4 false false t44_33 t48_37 R) fun t49_38 =>
   Pick t41_31 (.bool true) t49_38 fun t50_39 =>
   GdP (isB t50_39 false) (fun R => FAd 1 f_7_20 R) fun t52_40 =>
   GdP (isB t50_39 false) (fun R => LdC S_27 t52_40 R) fun t53_41 =>
   GdP (isB t50_39 false) (fun R => R x0) fun t54_42 =>
   GdP (isB t50_39 false) (fun R => NilC t54_42 R) fun t55_43 =>
   GdP (isB t50_39 false) (fun R => FAd 4 t55_43 R) fun t56_44 =>
   GdP (isB t50_39 false) (fun R => LdC S_27 t56_44 R) fun t57_45 =>
   Gd (isB t50_39 false) (fun R => CallF Try.prog 25 #[t53_41, t57_45] (World.drew w_23) R) (World.drew w_23) fun t58_46 w_47 =>
   S_27 w_47 ∧
   GdP (isB t50_39 false) (fun R => Un Try.prog S_27 .not t58_46 R) fun t59_48 =>
   Pick t50_39 (.bool true) t59_48 fun t60_49 =>
   GdP (isB t60_49 false) (fun R => R t35_26) fun t62_50 =>
   GdP (isB t60_49 false) (fun R => R x0) fun t63_51 =>
   GdP (isB t60_49 false) (fun R => NilC t63_51 R) fun t64_52 =>
   GdP (isB t60_49 false) (fun R => FAd 6 t64_52 R) fun t65_53 =>
   GdP (isB t60_49 false) (fun R => LdC S_27 t65_53 R) fun t66_54 =>
   GdP (isB t60_49 false) (fun R => Bin Try.prog S_27 .lss 3 false false t62_50 t66_54 R) fun t67_55 =>
   Pick t60_49 (.bool true) t67_55 fun t68_56 =>
   GdP (isB t68_56 false) (fun R => R t35_26) fun t70_57 =>
   GdP (isB t68_56 false) (fun R => R x0) fun t71_58 =>
   GdP (isB t68_56 false) (fun R => NilC t71_58 R) fun t72_59 =>
   GdP (isB t68_56 false) (fun R => FAd 5 t72_59 R) fun t73_60 =>
   GdP (isB t68_56 false) (fun R => LdC S_27 t73_60 R) fun t74_61 =>
   GdP (isB t68_56 false) (fun R => Len t74_61 R) fun t75_62 =>
   GdP (isB t68_56 false) (fun R => Bin Try.prog S_27 .gtr 3 false false t70_57 t75_62 R) fun t76_63 =>
   Pick t68_56 (.bool true) t76_63 fun t77_64 =>
   GdP (isB t77_64 false) (fun R => R x1) fun t79_65 =>
   GdP (isB t77_64 false) (fun R => Bin Try.prog S_27 .eql 3 false true t79_65 (.int .i64 0) R) fun t80_66 =>
   GdP (isB t77_64 false) (fun R => R t80_66) fun t81_67 =>
   GdP (isB t81_67 true) (fun R => R t35_26) fun t82_68 =>
   GdP (isB t81_67 true) (fun R => R x0) fun t83_69 =>
   GdP (isB t81_67 true) (fun R => NilC t83_69 R) fun t84_70 =>
   GdP (isB t81_67 true) (fun R => FAd 6 t84_70 R) fun t85_71 =>
   GdP (isB t81_67 true) (fun R => LdC S_27 t85_71 R) fun t86_72 =>
   GdP (isB t81_67 true) (fun R => Bin Try.prog S_27 .neq 3 false false t82_68 t86_72 R) fun t87_73 =>
   GdP (isB t77_64 false) (fun R => Pick t81_67 t87_73 (.bool false) R) fun t88_74 =>
   Pick t77_64 (.bool true) t88_74 fun t89_75 =>
   GdP (isB t89_75 false) (fun R => R x1) fun t91_76 =>
   GdP (isB t89_75 false) (fun R => R t16_4) fun t92_77 =>
   GdP (isB t89_75 false) (fun R => Bin Try.prog S_27 .geq 3 false false t91_76 t92_77 R) fun t93_78 =>
   GdP (isB t89_75 false) (fun R => R t93_78) fun t94_79 =>
   GdP (isB t94_79 true) (fun R => R t35_26) fun t95_80 =>
   GdP (isB t94_79 true) (fun R => R x0) fun t96_81 =>
   GdP (isB t94_79 true) (fun R => NilC t96_81 R) fun t97_82 =>
   GdP (isB t94_79 true) (fun R => FAd 5 t97_82 R) fun t98_83 =>
   GdP (isB t94_79 true) (fun R => LdC S_27 t98_83 R) fun t99_84 =>
   GdP (isB t94_79 true) (fun R => Len t99_84 R) fun t100_85 =>
   GdP (isB t94_79 true) (fun R => Bin Try.prog S_27 .neq 3 false false t95_80 t100_85 R) fun t101_86 =>
   GdP (isB t89_75 false) (fun R => Pick t94_79 t101_86 (.bool false) R) fun t102_87 =>
   Pick t89_75 (.bool true) t102_87 fun t103_88 =>
   GdP (isB t103_88 false) (fun R => FAd 2 f_7_20 R) fun t105_89 =>
   GdP (isB t103_88 false) (fun R => LdC S_27 t105_89 R) fun t106_90 =>
   GdP (isB t103_88 false) (fun R => R x0) fun t107_91 =>
   GdP (isB t103_88 false) (fun R => NilC t107_91 R) fun t108_92 =>
   GdP (isB t103_88 false) (fun R => FAd 5 t108_92 R) fun t109_93 =>
   GdP (isB t103_88 false) (fun R => LdC S_27 t109_93 R) fun t110_94 =>
   GdP (isB t103_88 false) (fun R => R t35_26) fun t111_95 =>
   GdP (isB t103_88 false) (fun R => SlcS 1 t110_94 none (some t111_95) none R) fun t112_96 =>
   Gd (isB t103_88 false) (fun R => CallF Try.prog 32 #[t106_90, t112_96] w_47 R) w_47 fun t113_97 w_98 =>
   S_27 w_98 ∧
   GdP (isB t103_88 false) (fun R => Un Try.prog S_27 .not t113_97 R) fun t114_99 =>
   Pick t103_88 (.bool true) t114_99 fun t115_100 =>
   If t115_100 (
    R (.bool false) w_98) (
    NilC x0 fun t117_101 =>
    FAd 5 t117_101 fun t118_102 =>
    LdC (At w_98) t118_102 fun t119_103 =>
    SlcS 1 t119_103 (some t35_26) none none fun t121_104 =>
    Len t121_104 fun t122_105 =>
    ∃ (I_106 : Nat → Value → World → Prop) (m_107 : Nat), I_106 m_107 (.int .i64 0) w_98 ∧
    ∀ m_108, ∀ t123_109, ∀ w_110, I_106 m_108 t123_109 w_110 →
     Bin Try.prog (At w_110) .lss 3 false false t123_109 t122_105 fun t124_111 =>
     If t124_111 (
      IAdS 1 t121_104 t123_109 fun t125_112 =>
      LdC (At w_110) t125_112 fun t126_113 =>
      NilC x0 fun t128_114 =>
      FAd 7 t128_114 fun t129_115 =>
      LdC (At w_110) t129_115 fun t130_116 =>
      Len t126_113 fun t132_117 =>
      Bin Try.prog (At w_110) .add 3 false true t132_117 (.int .i64 32) fun t133_118 =>
      Bin Try.prog (At w_110) .sub 3 false false t130_116 t133_118 fun t134_119 =>
      NilC x0 fun t135_120 =>
      FAd 7 t135_120 fun t136_121 =>
      DoU Try.prog (Instr.storeAt 3 t136_121 t134_119) w_110 fun u_122 w_123 =>
      Bin Try.prog (At w_123) .add 3 false true t123_109 (.int .i64 1) fun t137_124 =>
      ∃ m_125, m_125 < m_108 ∧
      I_106 m_125 t137_124 w_123) (
      ∃ S_126 : World → Prop, S_126 (World.drew w_110) ∧
      NilC x0 fun t143_127 =>
      FAd 5 t143_127 fun t144_128 =>
      LdC S_126 t144_128 fun t145_129 =>
      SlcS 1 t145_129 none (some t35_26) none fun t147_130 =>
      NilC x0 fun t149_131 =>
      FAd 1 t149_131 fun t150_132 =>
      DoU Try.prog (Instr.storeAt 31 t150_132 t30_17) (World.drew w_110) fun u_133 w_134 =>
      NilC x0 fun t151_135 =>
      FAd 5 t151_135 fun t152_136 =>
      DoU Try.prog (Instr.storeAt 23 t152_136 t147_130) w_134 fun u_137 w_138 =>
      NilC x0 fun t153_139 =>
      FAd 6 t153_139 fun t154_140 =>
      DoU Try.prog (Instr.storeAt 3 t154_140 t35_26) w_138 fun u_141 w_142 =>
      R (.bool true) w_142)))
theorem C_furlonglaw15_desk_crash_ent : Ent Try.prog 28 := ⟨_, Try.func28, by decide, rfl⟩
theorem C_furlonglaw15_desk_crash_eq {x0 x1 : Value} {w : World} {R : Value → World → Prop} : (C_furlonglaw15_desk_crash x0 x1 w R) = vFun Try.prog Try.f28 [0, 1, 4, 5, 6, 7, 8, 9, 11, 23, 115, 121, 122, 123, 124] [x0, x1] w R := by kernel_rfl
theorem C_furlonglaw15_desk_crash_link {x0 x1 : Value} {w : World} {R : Value → World → Prop} (h : C_furlonglaw15_desk_crash x0 x1 w R) : CallF Try.prog 28 #[x0, x1] w R :=
  callF_eq (fn := Try.f28) (L := [0, 1, 4, 5, 6, 7, 8, 9, 11, 23, 115, 121, 122, 123, 124]) (args := [x0, x1]) C_furlonglaw15_desk_crash_ent Try.func28 (by kernel_rfl) C_furlonglaw15_desk_crash_eq h

/-- (*furlong/furlonglaw15.desk).checkpoint: function 29 -/
def C_furlonglaw15_desk_checkpoint (x0 : Value) (x1 : Value) (w : World) (R : Value → World → Prop) : Prop :=
  NilC x0 fun t7_1 =>
  FAd 1 t7_1 fun t8_2 =>
  LdC (At w) t8_2 fun t9_3 =>
  CallF Try.prog 20 #[t9_3, x1] w fun t11_4 w_5 =>
  Len x1 fun t13_6 =>
  Bin Try.prog (At w_5) .gtr 3 false true t13_6 (.int .i64 524288) fun t14_7 =>
  If t14_7 (
   Bin Try.prog (At w_5) .eql 27 false true t11_4 (.int .i64 3) fun t16_8 =>
   R t16_8 w_5) (
   Bin Try.prog (At w_5) .eql 27 false true t11_4 (.int .i64 10) fun t18_9 =>
   If t18_9 (
    Len x1 fun t20_10 =>
    NilC x0 fun t22_11 =>
    FAd 2 t22_11 fun t23_12 =>
    LdC (At w_5) t23_12 fun t24_13 =>
    Bin Try.prog (At w_5) .gtr 3 false false t20_10 t24_13 fun t25_14 =>
    R t25_14 w_5) (
    CallF Try.prog 24 #[x1] w_5 fun t32_15 w_16 =>
    Len x1 fun t34_17 =>
    NilC x0 fun t35_18 =>
    FAd 3 t35_18 fun t36_19 =>
    DoU Try.prog (Instr.storeAt 4 t36_19 (.bool true)) w_16 fun u_20 w_21 =>
    NilC x0 fun t37_22 =>
    FAd 4 t37_22 fun t38_23 =>
    DoU Try.prog (Instr.storeAt 24 t38_23 t32_15) w_21 fun u_24 w_25 =>
    NilC x0 fun t39_26 =>
    FAd 5 t39_26 fun t40_27 =>
    DoU Try.prog (Instr.storeAt 23 t40_27 (.slice none 0 0)) w_25 fun u_28 w_29 =>
    NilC x0 fun t41_30 =>
    FAd 6 t41_30 fun t42_31 =>
    DoU Try.prog (Instr.storeAt 3 t42_31 (.int .i64 0)) w_29 fun u_32 w_33 =>
    NilC x0 fun t43_34 =>
    FAd 7 t43_34 fun t44_35 =>
    DoU Try.prog (Instr.storeAt 3 t44_35 t34_17) w_33 fun u_36 w_37 =>
    Bin Try.prog (At w_37) .eql 27 false true t11_4 (.int .i64 0) fun t46_38 =>
    R t46_38 w_37))
theorem C_furlonglaw15_desk_checkpoint_ent : Ent Try.prog 29 := ⟨_, Try.func29, by decide, rfl⟩
theorem C_furlonglaw15_desk_checkpoint_eq {x0 x1 : Value} {w : World} {R : Value → World → Prop} : (C_furlonglaw15_desk_checkpoint x0 x1 w R) = vFun Try.prog Try.f29 [0, 1, 4, 5, 14, 18] [x0, x1] w R := by kernel_rfl
theorem C_furlonglaw15_desk_checkpoint_link {x0 x1 : Value} {w : World} {R : Value → World → Prop} (h : C_furlonglaw15_desk_checkpoint x0 x1 w R) : CallF Try.prog 29 #[x0, x1] w R :=
  callF_eq (fn := Try.f29) (L := [0, 1, 4, 5, 14, 18]) (args := [x0, x1]) C_furlonglaw15_desk_checkpoint_ent Try.func29 (by kernel_rfl) C_furlonglaw15_desk_checkpoint_eq h

/-- furlong/furlonglaw15.blocks: function 30 -/
def C_furlonglaw15_blocks (x0 : Value) (w : World) (R : Value → World → Prop) : Prop :=
  Pu Try.prog (At w) (Builtin.max_ #[3, 3] 3 #[x0, (.int .i64 0)]) fun t4_1 =>
  Pu Try.prog (At w) (Builtin.min_ #[3, 3] 3 #[t4_1, (.int .i64 4000)]) fun t5_2 =>
  Bin Try.prog (At w) .add 3 true false (.int .i64 80) t5_2 fun t6_3 =>
  R t6_3 w
theorem C_furlonglaw15_blocks_ent : Ent Try.prog 30 := ⟨_, Try.func30, by decide, rfl⟩
theorem C_furlonglaw15_blocks_eq {x0 : Value} {w : World} {R : Value → World → Prop} : (C_furlonglaw15_blocks x0 w R) = vFun Try.prog Try.f30 [0, 2] [x0] w R := by kernel_rfl
theorem C_furlonglaw15_blocks_link {x0 : Value} {w : World} {R : Value → World → Prop} (h : C_furlonglaw15_blocks x0 w R) : CallF Try.prog 30 #[x0] w R :=
  callF_eq (fn := Try.f30) (L := [0, 2]) (args := [x0]) C_furlonglaw15_blocks_ent Try.func30 (by kernel_rfl) C_furlonglaw15_blocks_eq h

/-- (*furlong/furlonglaw15.desk).do: function 31 -/
def C_furlonglaw15_desk_do (x0 : Value) (x1 : Value) (w : World) (R : Value → World → Prop) : Prop :=
  Do Try.prog (Instr.box 52 x1) w fun o_3_1 w_2 =>
  FAd 0 o_3_1 fun t6_3 =>
  LdC (At w_2) t6_3 fun t7_4 =>
  Bin Try.prog (At w_2) .eql 3 false true t7_4 (.int .i64 0) fun t9_5 =>
  ∃ J_6 : Value → World → Prop,
  (∀ ok_5_7, ∀ w_8, J_6 ok_5_7 w_8 → (
   ∃ S_9 : World → Prop, S_9 (World.drew w_8) ∧
   GdP (isB ok_5_7 true) (fun R => R x0) fun t45_10 =>
   GdP (isB ok_5_7 true) (fun R => NilC t45_10 R) fun t46_11 =>
   GdP (isB ok_5_7 true) (fun R => FAd 1 t46_11 R) fun t47_12 =>
   GdP (isB ok_5_7 true) (fun R => LdC S_9 t47_12 R) fun t48_13 =>
   GdP (isB ok_5_7 true) (fun R => R x0) fun t50_14 =>
   GdP (isB ok_5_7 true) (fun R => NilC t50_14 R) fun t51_15 =>
   GdP (isB ok_5_7 true) (fun R => FAd 5 t51_15 R) fun t52_16 =>
   GdP (isB ok_5_7 true) (fun R => LdC S_9 t52_16 R) fun t53_17 =>
   GdP (isB ok_5_7 true) (fun R => Len t53_17 R) fun t54_18 =>
   Gd (isB ok_5_7 true) (fun R => CallF Try.prog 22 #[t48_13] (World.drew w_8) R) (World.drew w_8) fun t49_19 w_20 =>
   S_9 w_20 ∧
   GdP (isB ok_5_7 true) (fun R => Bin Try.prog S_9 .eql 3 false false t49_19 t54_18 R) fun t55_21 =>
   Pick ok_5_7 t55_21 (.bool false) fun t56_22 =>
   GdP (isB t56_22 true) (fun R => R x0) fun t58_23 =>
   GdP (isB t56_22 true) (fun R => NilC t58_23 R) fun t59_24 =>
   GdP (isB t56_22 true) (fun R => FAd 1 t59_24 R) fun t60_25 =>
   GdP (isB t56_22 true) (fun R => LdC S_9 t60_25 R) fun t61_26 =>
   GdP (isB t56_22 true) (fun R => R x0) fun t63_27 =>
   GdP (isB t56_22 true) (fun R => NilC t63_27 R) fun t64_28 =>
   GdP (isB t56_22 true) (fun R => FAd 6 t64_28 R) fun t65_29 =>
   GdP (isB t56_22 true) (fun R => LdC S_9 t65_29 R) fun t66_30 =>
   Gd (isB t56_22 true) (fun R => CallF Try.prog 23 #[t61_26] w_20 R) w_20 fun t62_31 w_32 =>
   S_9 w_32 ∧
   GdP (isB t56_22 true) (fun R => Bin Try.prog S_9 .eql 3 false false t62_31 t66_30 R) fun t67_33 =>
   Pick t56_22 t67_33 (.bool false) fun t68_34 =>
   R t68_34 w_32)) ∧
  If t9_5 (
   FAd 2 o_3_1 fun t11_35 =>
   LdC (At w_2) t11_35 fun t12_36 =>
   CallF Try.prog 27 #[x0, t12_36] w_2 fun t13_37 w_38 =>
   J_6 t13_37 w_38) (
   Bin Try.prog (At w_2) .eql 3 false true t7_4 (.int .i64 1) fun t15_39 =>
   ∃ J_40 : Value → World → Prop,
   (∀ ok_5_41, ∀ w_42, J_40 ok_5_41 w_42 → (
    J_6 ok_5_41 w_42)) ∧
   If t15_39 (
    NilC x0 fun t17_43 =>
    FAd 1 t17_43 fun t18_44 =>
    LdC (At w_2) t18_44 fun t19_45 =>
    CallF Try.prog 21 #[t19_45] w_2 fun t20_46 w_47 =>
    Bin Try.prog (At w_47) .eql 27 false true t20_46 (.int .i64 0) fun t21_48 =>
    NilC x0 fun t24_49 =>
    FAd 5 t24_49 fun t25_50 =>
    LdC (At w_47) t25_50 fun t26_51 =>
    Len t26_51 fun t27_52 =>
    NilC x0 fun t28_53 =>
    FAd 6 t28_53 fun t29_54 =>
    DoU Try.prog (Instr.storeAt 3 t29_54 t27_52) w_47 fun u_55 w_56 =>
    J_40 t21_48 w_56) (
    Bin Try.prog (At w_2) .eql 3 false true t7_4 (.int .i64 2) fun t31_57 =>
    ∃ J_58 : Value → World → Prop,
    (∀ ok_5_59, ∀ w_60, J_58 ok_5_59 w_60 → (
     J_40 ok_5_59 w_60)) ∧
    If t31_57 (
     FAd 2 o_3_1 fun t33_61 =>
     LdC (At w_2) t33_61 fun t34_62 =>
     CallF Try.prog 29 #[x0, t34_62] w_2 fun t35_63 w_64 =>
     J_58 t35_63 w_64) (
     Bin Try.prog (At w_2) .eql 3 false true t7_4 (.int .i64 3) fun t37_65 =>
     ∃ J_66 : Value → World → Prop,
     (∀ ok_5_67, ∀ w_68, J_66 ok_5_67 w_68 → (
      J_58 ok_5_67 w_68)) ∧
     If t37_65 (
      FAd 1 o_3_1 fun t39_69 =>
      LdC (At w_2) t39_69 fun t40_70 =>
      Pu Try.prog (At w_2) (Builtin.max_ #[3, 3] 3 #[t40_70, (.int .i64 0)]) fun t41_71 =>
      CallF Try.prog 28 #[x0, t41_71] w_2 fun t42_72 w_73 =>
      J_66 t42_72 w_73) (
      J_66 (.bool true) w_2))))
theorem C_furlonglaw15_desk_do_ent : Ent Try.prog 31 := ⟨_, Try.func31, by decide, rfl⟩
theorem C_furlonglaw15_desk_do_eq {x0 x1 : Value} {w : World} {R : Value → World → Prop} : (C_furlonglaw15_desk_do x0 x1 w R) = vFun Try.prog Try.f31 [0, 1, 3, 4, 5, 7, 8, 14, 30, 36] [x0, x1] w R := by kernel_rfl
theorem C_furlonglaw15_desk_do_link {x0 x1 : Value} {w : World} {R : Value → World → Prop} (h : C_furlonglaw15_desk_do x0 x1 w R) : CallF Try.prog 31 #[x0, x1] w R :=
  callF_eq (fn := Try.f31) (L := [0, 1, 3, 4, 5, 7, 8, 14, 30, 36]) (args := [x0, x1]) C_furlonglaw15_desk_do_ent Try.func31 (by kernel_rfl) C_furlonglaw15_desk_do_eq h

/-- furlong/furlongref01.Lists: function 32 -/
def C_furlongref01_Lists (x0 : Value) (x1 : Value) (w : World) (R : Value → World → Prop) : Prop :=
  Len x0 fun t7_1 =>
  Len x1 fun t9_2 =>
  Bin Try.prog (At w) .neq 3 false false t7_1 t9_2 fun t10_3 =>
  If t10_3 (
   R (.bool false) w) (
   Len x0 fun t12_4 =>
   ∃ (I_5 : Nat → Value → Value → World → Prop) (m_6 : Nat), I_5 m_6 (.bool false) (.int .i64 0) w ∧
   ∀ m_7, ∀ t4_8, ∀ t13_9, ∀ w_10, I_5 m_7 t4_8 t13_9 w_10 →
    Bin Try.prog (At w_10) .lss 3 false false t13_9 t12_4 fun t14_11 =>
    If t14_11 (
     ∃ S_12 : World → Prop, S_12 (World.drew w_10) ∧
     IAdS 1 x0 t13_9 fun t18_13 =>
     LdC S_12 t18_13 fun t19_14 =>
     IAdS 1 x1 t13_9 fun t22_15 =>
     LdC S_12 t22_15 fun t23_16 =>
     CallF Try.prog 25 #[t19_14, t23_16] (World.drew w_10) fun t24_17 w_18 =>
     S_12 w_18 ∧
     Un Try.prog S_12 .not t24_17 fun t25_19 =>
     If t25_19 (
      R (.bool false) w_18) (
      Bin Try.prog (At w_18) .add 3 false true t13_9 (.int .i64 1) fun t26_20 =>
      ∃ m_21, m_21 < m_7 ∧
      I_5 m_21 t4_8 t26_20 w_18)) (
     R (.bool true) w_10))
theorem C_furlongref01_Lists_ent : Ent Try.prog 32 := ⟨_, Try.func32, by decide, rfl⟩
theorem C_furlongref01_Lists_eq {x0 x1 : Value} {w : World} {R : Value → World → Prop} : (C_furlongref01_Lists x0 x1 w R) = vFun Try.prog Try.f32 [0, 1, 4, 5, 10, 12, 13, 14, 25] [x0, x1] w R := by kernel_rfl
theorem C_furlongref01_Lists_link {x0 x1 : Value} {w : World} {R : Value → World → Prop} (h : C_furlongref01_Lists x0 x1 w R) : CallF Try.prog 32 #[x0, x1] w R :=
  callF_eq (fn := Try.f32) (L := [0, 1, 4, 5, 10, 12, 13, 14, 25]) (args := [x0, x1]) C_furlongref01_Lists_ent Try.func32 (by kernel_rfl) C_furlongref01_Lists_eq h

/-- (*furlong/disk.Disk).Crash: function 39 -/
def C_disk_Disk_Crash (x0 : Value) (x1 : Value) (w : World) (R : Value → World → Prop) : Prop :=
  Bin Try.prog (At w) .eql 26 false true x0 (.pointer none) fun t8_1 =>
  If t8_1 (
   R (.int .i64 17) w) (
   Bin Try.prog (At w) .lss 3 false true x1 (.int .i64 0) fun t11_2 =>
   If t11_2 (
    R (.int .i64 1) w) (
    NilC x0 fun t13_3 =>
    FAd 1 t13_3 fun t14_4 =>
    LdC (At w) t14_4 fun t15_5 =>
    Len t15_5 fun t16_6 =>
    Bin Try.prog (At w) .sub 3 false true t16_6 (.int .i64 1) fun t17_7 =>
    ∃ (I_8 : Nat → Value → World → Prop) (m_9 : Nat), I_8 m_9 t17_7 w ∧
    ∀ m_10, ∀ i_5_11, ∀ w_12, I_8 m_10 i_5_11 w_12 →
     Bin Try.prog (At w_12) .geq 3 false false i_5_11 x1 fun t20_13 =>
     If t20_13 (
      ∃ S_14 : World → Prop, S_14 (World.drew w_12) ∧
      NilC x0 fun t24_15 =>
      FAd 0 t24_15 fun t25_16 =>
      LdC S_14 t25_16 fun t26_17 =>
      NilC x0 fun t28_18 =>
      FAd 1 t28_18 fun t29_19 =>
      LdC S_14 t29_19 fun t30_20 =>
      IAdS 129 t30_20 i_5_11 fun t32_21 =>
      FAd 0 t32_21 fun t33_22 =>
      LdC S_14 t33_22 fun t34_23 =>
      NilC x0 fun t36_24 =>
      FAd 1 t36_24 fun t37_25 =>
      LdC S_14 t37_25 fun t38_26 =>
      IAdS 129 t38_26 i_5_11 fun t40_27 =>
      FAd 1 t40_27 fun t41_28 =>
      LdA S_14 64 t41_28 fun t42_29 =>
      IAdS 64 t26_17 t34_23 fun t43_30 =>
      DoU Try.prog (Instr.storeAt 118 t43_30 t42_29) (World.drew w_12) fun u_31 w_32 =>
      Bin Try.prog (At w_32) .sub 3 false true i_5_11 (.int .i64 1) fun t22_33 =>
      ∃ m_34, m_34 < m_10 ∧
      I_8 m_34 t22_33 w_32) (
      NilC x0 fun t45_35 =>
      FAd 1 t45_35 fun t46_36 =>
      DoU Try.prog (Instr.storeAt 114 t46_36 (.slice none 0 0)) w_12 fun u_37 w_38 =>
      R (.int .i64 0) w_38)))
theorem C_disk_Disk_Crash_ent : Ent Try.prog 39 := ⟨_, Try.func39, by decide, rfl⟩
theorem C_disk_Disk_Crash_eq {x0 x1 : Value} {w : World} {R : Value → World → Prop} : (C_disk_Disk_Crash x0 x1 w R) = vFun Try.prog Try.f39 [0, 1, 4, 5, 6, 9, 20] [x0, x1] w R := by kernel_rfl
theorem C_disk_Disk_Crash_link {x0 x1 : Value} {w : World} {R : Value → World → Prop} (h : C_disk_Disk_Crash x0 x1 w R) : CallF Try.prog 39 #[x0, x1] w R :=
  callF_eq (fn := Try.f39) (L := [0, 1, 4, 5, 6, 9, 20]) (args := [x0, x1]) C_disk_Disk_Crash_ent Try.func39 (by kernel_rfl) C_disk_Disk_Crash_eq h

/-- furlong/store.eldest: function 65 -/
def C_store_eldest (x0 : Value) (w : World) (R : Value → World → Prop) : Prop :=
  ∃ (I_1 : Nat → Value → Value → World → Prop) (m_2 : Nat), I_1 m_2 (.int .u32 0) (.int .i64 2) w ∧
  ∀ m_3, ∀ life_3_4, ∀ n_4_5, ∀ w_6, I_1 m_3 life_3_4 n_4_5 w_6 →
   CallF Try.prog 99 #[x0] w_6 fun t9_7 w_8 =>
   Bin Try.prog (At w_8) .lss 3 false false n_4_5 t9_7 fun t10_9 =>
   If t10_9 (
    CallF Try.prog 100 #[x0, n_4_5] w_8 fun t16_10 w_11 =>
    Ext t16_10 0 fun t17_12 =>
    Ext t16_10 1 fun t18_13 =>
    CallF Try.prog 68 #[t17_12] w_11 fun t20_14 w_15 =>
    Bin Try.prog (At w_15) .gtr 121 false true t20_14 (.int .u32 0) fun t21_16 =>
    ∃ J_17 : Value → World → Prop,
    (∀ life_3_18, ∀ w_19, J_17 life_3_18 w_19 → (
     Bin Try.prog (At w_19) .add 3 false true n_4_5 (.int .i64 1) fun t12_20 =>
     ∃ m_21, m_21 < m_3 ∧
     I_1 m_21 life_3_18 t12_20 w_19)) ∧
    If t21_16 (
     SlcS 1 t17_12 (some (.int .i64 4)) none none fun t24_22 =>
     CallF Try.prog 68 #[t24_22] w_15 fun t25_23 w_24 =>
     Pu Try.prog (At w_24) (Builtin.max_ #[121, 121] 121 #[life_3_4, t25_23]) fun t26_25 =>
     J_17 t26_25 w_24) (
     J_17 life_3_4 w_15)) (
    Bin Try.prog (At w_8) .add 121 false true life_3_4 (.int .u32 1) fun t28_26 =>
    R t28_26 w_8)
theorem C_store_eldest_ent : Ent Try.prog 65 := ⟨_, Try.func65, by decide, rfl⟩
theorem C_store_eldest_eq {x0 : Value} {w : World} {R : Value → World → Prop} : (C_store_eldest x0 w R) = vFun Try.prog Try.f65 [0, 2, 3, 4, 5, 10, 21] [x0] w R := by kernel_rfl
theorem C_store_eldest_link {x0 : Value} {w : World} {R : Value → World → Prop} (h : C_store_eldest x0 w R) : CallF Try.prog 65 #[x0] w R :=
  callF_eq (fn := Try.f65) (L := [0, 2, 3, 4, 5, 10, 21]) (args := [x0]) C_store_eldest_ent Try.func65 (by kernel_rfl) C_store_eldest_eq h

/-- furlong/store.root: function 66 -/
def C_store_root (x0 : Value) (w : World) (R : Value → World → Prop) : Prop :=
  ∃ (I_1 : Nat → Value → Value → Value → Value → World → Prop) (m_2 : Nat), I_1 m_2 (.int .u32 1) (.int .i64 0) (.bool false) (.int .i64 0) w ∧
  ∀ m_3, ∀ gen_2_4, ∀ size_3_5, ∀ whole_4_6, ∀ t9_7, ∀ w_8, I_1 m_3 gen_2_4 size_3_5 whole_4_6 t9_7 w_8 →
   Bin Try.prog (At w_8) .lss 3 false true t9_7 (.int .i64 2) fun t10_9 =>
   If t10_9 (
    ∃ J_10 : Value → Value → Value → World → Prop,
    (∀ gen_2_11, ∀ size_3_12, ∀ whole_4_13, ∀ w_14, J_10 gen_2_11 size_3_12 whole_4_13 w_14 → (
     Bin Try.prog (At w_14) .add 3 false true t9_7 (.int .i64 1) fun t44_15 =>
     ∃ m_16, m_16 < m_3 ∧
     I_1 m_16 gen_2_11 size_3_12 whole_4_13 t44_15 w_14)) ∧
    CallF Try.prog 100 #[x0, t9_7] w_8 fun t15_17 w_18 =>
    Ext t15_17 0 fun t16_19 =>
    Ext t15_17 1 fun t17_20 =>
    Bin Try.prog (At w_18) .neq 27 false true t17_20 (.int .i64 0) fun t19_21 =>
    GdP (isB t19_21 false) (fun R => R t16_19) fun t21_22 =>
    GdP (isB t19_21 false) (fun R => SlcS 1 t21_22 none (some (.int .i64 8)) none R) fun t22_23 =>
    Gd (isB t19_21 false) (fun R => Do Try.prog (convert 24 9 t22_23) w_18 R) w_18 fun t23_24 w_25 =>
    GdP (isB t19_21 false) (fun R => Bin Try.prog (At w_25) .neq 9 false true t23_24 (.string ⟨#[102, 117, 114, 108, 111, 110, 103, 49]⟩) R) fun t24_26 =>
    Pick t19_21 (.bool true) t24_26 fun t25_27 =>
    If t25_27 (
     J_10 gen_2_4 size_3_5 whole_4_6 w_25) (
     SlcS 1 t16_19 (some (.int .i64 8)) none none fun t27_28 =>
     CallF Try.prog 68 #[t27_28] w_25 fun t28_29 w_30 =>
     Bin Try.prog (At w_30) .gtr 121 false false t28_29 gen_2_4 fun t31_31 =>
     GdP (isB t31_31 true) (fun R => R t28_29) fun t33_32 =>
     GdP (isB t31_31 true) (fun R => Bin Try.prog (At w_30) .rem 121 false true t33_32 (.int .u32 2) R) fun t34_33 =>
     GdP (isB t31_31 true) (fun R => ConvI .i64 t34_33 R) fun t35_34 =>
     GdP (isB t31_31 true) (fun R => R t9_7) fun t36_35 =>
     GdP (isB t31_31 true) (fun R => Bin Try.prog (At w_30) .eql 3 false false t35_34 t36_35 R) fun t37_36 =>
     Pick t31_31 t37_36 (.bool false) fun t38_37 =>
     ∃ J_38 : Value → Value → Value → World → Prop,
     (∀ gen_2_39, ∀ size_3_40, ∀ whole_4_41, ∀ w_42, J_38 gen_2_39 size_3_40 whole_4_41 w_42 → (
      J_10 gen_2_39 size_3_40 whole_4_41 w_42)) ∧
     If t38_37 (
      SlcS 1 t16_19 (some (.int .i64 12)) none none fun t41_43 =>
      CallF Try.prog 68 #[t41_43] w_30 fun t42_44 w_45 =>
      ConvI .i64 t42_44 fun t43_46 =>
      J_38 t28_29 t43_46 (.bool true) w_45) (
      J_38 gen_2_4 size_3_5 whole_4_6 w_30))) (
    R (.tuple #[gen_2_4, size_3_5, whole_4_6]) w_8)
theorem C_store_root_ent : Ent Try.prog 66 := ⟨_, Try.func66, by decide, rfl⟩
theorem C_store_root_eq {x0 : Value} {w : World} {R : Value → World → Prop} : (C_store_root x0 w R) = vFun Try.prog Try.f66 [0, 2, 3, 4, 5, 6, 7, 8, 9, 10, 25, 38] [x0] w R := by kernel_rfl
theorem C_store_root_link {x0 : Value} {w : World} {R : Value → World → Prop} (h : C_store_root x0 w R) : CallF Try.prog 66 #[x0] w R :=
  callF_eq (fn := Try.f66) (L := [0, 2, 3, 4, 5, 6, 7, 8, 9, 10, 25, 38]) (args := [x0]) C_store_root_ent Try.func66 (by kernel_rfl) C_store_root_eq h

/-- (*furlong/store.Store).blocks: function 67 -/
def C_store_Store_blocks (x0 : Value) (w : World) (R : Value → World → Prop) : Prop :=
  Do Try.prog (Instr.box 31 x0) w fun s_1_1 w_2 =>
  R (.func (.func 101) #[] #[s_1_1]) w_2
theorem C_store_Store_blocks_ent : Ent Try.prog 67 := ⟨_, Try.func67, by decide, rfl⟩
theorem C_store_Store_blocks_eq {x0 : Value} {w : World} {R : Value → World → Prop} : (C_store_Store_blocks x0 w R) = vFun Try.prog Try.f67 [0, 1, 2] [x0] w R := by kernel_rfl
theorem C_store_Store_blocks_link {x0 : Value} {w : World} {R : Value → World → Prop} (h : C_store_Store_blocks x0 w R) : CallF Try.prog 67 #[x0] w R :=
  callF_eq (fn := Try.f67) (L := [0, 1, 2]) (args := [x0]) C_store_Store_blocks_ent Try.func67 (by kernel_rfl) C_store_Store_blocks_eq h

/-- furlong/store.four: function 68 -/
def C_store_four (x0 : Value) (w : World) (R : Value → World → Prop) : Prop :=
  ∃ S_1 : World → Prop, S_1 (World.drew w) ∧
  IAdS 1 x0 (.int .i64 0) fun t4_2 =>
  LdC S_1 t4_2 fun t5_3 =>
  ConvI .u32 t5_3 fun t6_4 =>
  IAdS 1 x0 (.int .i64 1) fun t8_5 =>
  LdC S_1 t8_5 fun t9_6 =>
  ConvI .u32 t9_6 fun t10_7 =>
  Bin Try.prog S_1 .shl 121 false true t10_7 (.int .u64 8) fun t11_8 =>
  Bin Try.prog S_1 .or 121 false false t6_4 t11_8 fun t12_9 =>
  IAdS 1 x0 (.int .i64 2) fun t14_10 =>
  LdC S_1 t14_10 fun t15_11 =>
  ConvI .u32 t15_11 fun t16_12 =>
  Bin Try.prog S_1 .shl 121 false true t16_12 (.int .u64 16) fun t17_13 =>
  Bin Try.prog S_1 .or 121 false false t12_9 t17_13 fun t18_14 =>
  IAdS 1 x0 (.int .i64 3) fun t20_15 =>
  LdC S_1 t20_15 fun t21_16 =>
  ConvI .u32 t21_16 fun t22_17 =>
  Bin Try.prog S_1 .shl 121 false true t22_17 (.int .u64 24) fun t23_18 =>
  Bin Try.prog S_1 .or 121 false false t18_14 t23_18 fun t24_19 =>
  R t24_19 (World.drew w)
theorem C_store_four_ent : Ent Try.prog 68 := ⟨_, Try.func68, by decide, rfl⟩
theorem C_store_four_eq {x0 : Value} {w : World} {R : Value → World → Prop} : (C_store_four x0 w R) = vFun Try.prog Try.f68 [0, 2] [x0] w R := by kernel_rfl
theorem C_store_four_link {x0 : Value} {w : World} {R : Value → World → Prop} (h : C_store_four x0 w R) : CallF Try.prog 68 #[x0] w R :=
  callF_eq (fn := Try.f68) (L := [0, 2]) (args := [x0]) C_store_four_ent Try.func68 (by kernel_rfl) C_store_four_eq h

/-- (*furlong/disk.Disk).Sync: function 69 -/
def C_disk_Disk_Sync (x0 : Value) (w : World) (R : Value → World → Prop) : Prop :=
  Bin Try.prog (At w) .eql 26 false true x0 (.pointer none) fun t4_1 =>
  If t4_1 (
   R (.int .i64 17) w) (
   NilC x0 fun t6_2 =>
   FAd 1 t6_2 fun t7_3 =>
   DoU Try.prog (Instr.storeAt 114 t7_3 (.slice none 0 0)) w fun u_4 w_5 =>
   R (.int .i64 0) w_5)
theorem C_disk_Disk_Sync_ent : Ent Try.prog 69 := ⟨_, Try.func69, by decide, rfl⟩
theorem C_disk_Disk_Sync_eq {x0 : Value} {w : World} {R : Value → World → Prop} : (C_disk_Disk_Sync x0 w R) = vFun Try.prog Try.f69 [0, 2, 4] [x0] w R := by kernel_rfl
theorem C_disk_Disk_Sync_link {x0 : Value} {w : World} {R : Value → World → Prop} (h : C_disk_Disk_Sync x0 w R) : CallF Try.prog 69 #[x0] w R :=
  callF_eq (fn := Try.f69) (L := [0, 2, 4]) (args := [x0]) C_disk_Disk_Sync_ent Try.func69 (by kernel_rfl) C_disk_Disk_Sync_eq h

/-- (*furlong/store.Store).fits: function 70 -/
def C_store_Store_fits (x0 : Value) (x1 : Value) (w : World) (R : Value → World → Prop) : Prop :=
  ∃ S_1 : World → Prop, S_1 (World.drew w) ∧
  NilC x0 fun t9_2 =>
  FAd 4 t9_2 fun t10_3 =>
  LdC S_1 t10_3 fun t11_4 =>
  NilC x0 fun t15_5 =>
  FAd 3 t15_5 fun t16_6 =>
  LdC S_1 t16_6 fun t17_7 =>
  Len t17_7 fun t18_8 =>
  CallF Try.prog 73 #[x0] (World.drew w) fun t7_9 w_10 =>
  S_1 w_10 ∧
  Bin Try.prog S_1 .sub 3 false false t7_9 t11_4 fun t12_11 =>
  Bin Try.prog S_1 .mul 3 false true t12_11 (.int .i64 55) fun t13_12 =>
  Bin Try.prog S_1 .sub 3 false false t13_12 t18_8 fun t19_13 =>
  Bin Try.prog S_1 .leq 3 false false x1 t19_13 fun t20_14 =>
  R t20_14 w_10
theorem C_store_Store_fits_ent : Ent Try.prog 70 := ⟨_, Try.func70, by decide, rfl⟩
theorem C_store_Store_fits_eq {x0 x1 : Value} {w : World} {R : Value → World → Prop} : (C_store_Store_fits x0 x1 w R) = vFun Try.prog Try.f70 [0, 1, 4] [x0, x1] w R := by kernel_rfl
theorem C_store_Store_fits_link {x0 x1 : Value} {w : World} {R : Value → World → Prop} (h : C_store_Store_fits x0 x1 w R) : CallF Try.prog 70 #[x0, x1] w R :=
  callF_eq (fn := Try.f70) (L := [0, 1, 4]) (args := [x0, x1]) C_store_Store_fits_ent Try.func70 (by kernel_rfl) C_store_Store_fits_eq h

/-- (*furlong/store.Store).put: function 71 -/
def C_store_Store_put (x0 : Value) (x1 : Value) (w : World) (R : Value → World → Prop) : Prop :=
  NilC x0 fun t8_1 =>
  FAd 3 t8_1 fun t9_2 =>
  LdC (At w) t9_2 fun t10_3 =>
  Do Try.prog (Builtin.append_ #[24, 24] 24 #[t10_3, x1]) w fun t12_4 w_5 =>
  NilC x0 fun t13_6 =>
  FAd 3 t13_6 fun t14_7 =>
  DoU Try.prog (Instr.storeAt 24 t14_7 t12_4) w_5 fun u_8 w_9 =>
  ∃ (I_10 : Nat → World → Prop) (m_11 : Nat), I_10 m_11 w_9 ∧
  ∀ m_12, ∀ w_13, I_10 m_12 w_13 →
   NilC x0 fun t16_14 =>
   FAd 3 t16_14 fun t17_15 =>
   LdC (At w_13) t17_15 fun t18_16 =>
   Len t18_16 fun t19_17 =>
   Pu Try.prog (At w_13) (Builtin.min_ #[3, 3] 3 #[t19_17, (.int .i64 55)]) fun t20_18 =>
   NilC x0 fun t22_19 =>
   FAd 1 t22_19 fun t23_20 =>
   LdC (At w_13) t23_20 fun t24_21 =>
   CallF Try.prog 72 #[(.slice none 0 0), t24_21] w_13 fun t25_22 w_23 =>
   NilC x0 fun t28_24 =>
   FAd 2 t28_24 fun t29_25 =>
   LdC (At w_23) t29_25 fun t30_26 =>
   CallF Try.prog 72 #[t25_22, t30_26] w_23 fun t31_27 w_28 =>
   ∃ J_30 : World → Prop,
   (∀ w_31, J_30 w_31 → (
    Bin Try.prog (At w_31) .lss 3 false true t20_18 (.int .i64 55) fun t56_32 =>
    If t56_32 (
     R (.tuple #[]) w_31) (
     NilC x0 fun t59_33 =>
     FAd 3 t59_33 fun t60_34 =>
     LdC (At w_31) t60_34 fun t61_35 =>
     SlcS 1 t61_35 (some (.int .i64 55)) none none fun t62_36 =>
     Do Try.prog (Builtin.append_ #[24, 24] 24 #[(.slice none 0 0), t62_36]) w_31 fun t63_37 w_38 =>
     NilC x0 fun t64_39 =>
     FAd 3 t64_39 fun t65_40 =>
     DoU Try.prog (Instr.storeAt 24 t65_40 t63_37) w_38 fun u_41 w_42 =>
     NilC x0 fun t67_43 =>
     FAd 4 t67_43 fun t68_44 =>
     LdC (At w_42) t68_44 fun t69_45 =>
     Bin Try.prog (At w_42) .add 3 false true t69_45 (.int .i64 1) fun t70_46 =>
     NilC x0 fun t71_47 =>
     FAd 4 t71_47 fun t72_48 =>
     DoU Try.prog (Instr.storeAt 3 t72_48 t70_46) w_42 fun u_49 w_50 =>
     NilC x0 fun t74_51 =>
     FAd 3 t74_51 fun t75_52 =>
     LdC (At w_50) t75_52 fun t76_53 =>
     Len t76_53 fun t77_54 =>
     Bin Try.prog (At w_50) .eql 3 false true t77_54 (.int .i64 0) fun t78_55 =>
     If t78_55 (
      R (.tuple #[]) w_50) (
      ∃ m_56, m_56 < m_12 ∧
      I_10 m_56 w_50)))) ∧
   ∃ S_29 : World → Prop, S_29 (World.drew w_28) ∧
   NilC x0 fun t33_57 =>
   FAd 0 t33_57 fun t34_58 =>
   LdC S_29 t34_58 fun t35_59 =>
   NilC x0 fun t38_60 =>
   FAd 4 t38_60 fun t39_61 =>
   LdC S_29 t39_61 fun t40_62 =>
   ConvI .u8 t20_18 fun t44_63 =>
   NilC x0 fun t48_64 =>
   FAd 3 t48_64 fun t49_65 =>
   LdC S_29 t49_65 fun t50_66 =>
   SlcS 1 t50_66 none (some t20_18) none fun t52_67 =>
   (
    CallF Try.prog 102 #[x0, t40_62] (World.drew w_28) fun t41_68 w_69 =>
    S_29 w_69 ∧
    Do Try.prog (Instr.buildSlice 24 1 #[(0, t44_63)]) w_69 fun t45_70 w_71 =>
    S_29 w_71 ∧
    Do Try.prog (Builtin.append_ #[24, 24] 24 #[t31_27, t45_70]) w_71 fun t46_72 w_73 =>
    S_29 w_73 ∧
    Do Try.prog (Builtin.append_ #[24, 24] 24 #[t46_72, t52_67]) w_73 fun t53_74 w_75 =>
    S_29 w_75 ∧
    CallF Try.prog 17 #[t35_59, t41_68, t53_74] w_75 fun t54_76 w_77 =>
    S_29 w_77 ∧
    J_30 w_77) ∧
   (
    Do Try.prog (Instr.buildSlice 24 1 #[(0, t44_63)]) (World.drew w_28) fun t45_78 w_79 =>
    S_29 w_79 ∧
    CallF Try.prog 102 #[x0, t40_62] w_79 fun t41_80 w_81 =>
    S_29 w_81 ∧
    Do Try.prog (Builtin.append_ #[24, 24] 24 #[t31_27, t45_78]) w_81 fun t46_82 w_83 =>
    S_29 w_83 ∧
    Do Try.prog (Builtin.append_ #[24, 24] 24 #[t46_82, t52_67]) w_83 fun t53_84 w_85 =>
    S_29 w_85 ∧
    CallF Try.prog 17 #[t35_59, t41_80, t53_84] w_85 fun t54_86 w_87 =>
    S_29 w_87 ∧
    J_30 w_87)
theorem C_store_Store_put_ent : Ent Try.prog 71 := ⟨_, Try.func71, by decide, rfl⟩
theorem C_store_Store_put_eq {x0 x1 : Value} {w : World} {R : Value → World → Prop} : (C_store_Store_put x0 x1 w R) = vFun Try.prog Try.f71 [0, 1, 4, 5, 56, 78] [x0, x1] w R := by kernel_rfl
theorem C_store_Store_put_link {x0 x1 : Value} {w : World} {R : Value → World → Prop} (h : C_store_Store_put x0 x1 w R) : CallF Try.prog 71 #[x0, x1] w R :=
  callF_eq (fn := Try.f71) (L := [0, 1, 4, 5, 56, 78]) (args := [x0, x1]) C_store_Store_put_ent Try.func71 (by kernel_rfl) C_store_Store_put_eq h

/-- furlong/store.put: function 72 -/
def C_store_put (x0 : Value) (x1 : Value) (w : World) (R : Value → World → Prop) : Prop :=
  ConvI .u8 x1 fun t7_1 =>
  Bin Try.prog (At w) .shr 121 false true x1 (.int .u64 8) fun t9_2 =>
  ConvI .u8 t9_2 fun t10_3 =>
  Bin Try.prog (At w) .shr 121 false true x1 (.int .u64 16) fun t12_4 =>
  ConvI .u8 t12_4 fun t13_5 =>
  Bin Try.prog (At w) .shr 121 false true x1 (.int .u64 24) fun t15_6 =>
  ConvI .u8 t15_6 fun t16_7 =>
  Do Try.prog (Instr.buildSlice 24 4 #[(0, t7_1), (1, t10_3), (2, t13_5), (3, t16_7)]) w fun t17_8 w_9 =>
  Do Try.prog (Builtin.append_ #[24, 24] 24 #[x0, t17_8]) w_9 fun t18_10 w_11 =>
  R t18_10 w_11
theorem C_store_put_ent : Ent Try.prog 72 := ⟨_, Try.func72, by decide, rfl⟩
theorem C_store_put_eq {x0 x1 : Value} {w : World} {R : Value → World → Prop} : (C_store_put x0 x1 w R) = vFun Try.prog Try.f72 [0, 1, 4] [x0, x1] w R := by kernel_rfl
theorem C_store_put_link {x0 x1 : Value} {w : World} {R : Value → World → Prop} (h : C_store_put x0 x1 w R) : CallF Try.prog 72 #[x0, x1] w R :=
  callF_eq (fn := Try.f72) (L := [0, 1, 4]) (args := [x0, x1]) C_store_put_ent Try.func72 (by kernel_rfl) C_store_put_eq h

/-- (*furlong/store.Store).half: function 73 -/
def C_store_Store_half (x0 : Value) (w : World) (R : Value → World → Prop) : Prop :=
  NilC x0 fun t4_1 =>
  FAd 0 t4_1 fun t5_2 =>
  LdC (At w) t5_2 fun t6_3 =>
  CallF Try.prog 99 #[t6_3] w fun t7_4 w_5 =>
  Bin Try.prog (At w_5) .sub 3 false true t7_4 (.int .i64 2) fun t8_6 =>
  Pu Try.prog (At w_5) (Builtin.max_ #[3, 3] 3 #[t8_6, (.int .i64 0)]) fun t9_7 =>
  Bin Try.prog (At w_5) .quo 3 false true t9_7 (.int .i64 2) fun t10_8 =>
  R t10_8 w_5
theorem C_store_Store_half_ent : Ent Try.prog 73 := ⟨_, Try.func73, by decide, rfl⟩
theorem C_store_Store_half_eq {x0 : Value} {w : World} {R : Value → World → Prop} : (C_store_Store_half x0 w R) = vFun Try.prog Try.f73 [0, 2] [x0] w R := by kernel_rfl
theorem C_store_Store_half_link {x0 : Value} {w : World} {R : Value → World → Prop} (h : C_store_Store_half x0 w R) : CallF Try.prog 73 #[x0] w R :=
  callF_eq (fn := Try.f73) (L := [0, 2]) (args := [x0]) C_store_Store_half_ent Try.func73 (by kernel_rfl) C_store_Store_half_eq h

/-- (*furlong/disk.Disk).Loose: function 74 -/
def C_disk_Disk_Loose (x0 : Value) (w : World) (R : Value → World → Prop) : Prop :=
  Bin Try.prog (At w) .eql 26 false true x0 (.pointer none) fun t4_1 =>
  If t4_1 (
   R (.int .i64 0) w) (
   NilC x0 fun t6_2 =>
   FAd 1 t6_2 fun t7_3 =>
   LdC (At w) t7_3 fun t8_4 =>
   Len t8_4 fun t9_5 =>
   R t9_5 w)
theorem C_disk_Disk_Loose_ent : Ent Try.prog 74 := ⟨_, Try.func74, by decide, rfl⟩
theorem C_disk_Disk_Loose_eq {x0 : Value} {w : World} {R : Value → World → Prop} : (C_disk_Disk_Loose x0 w R) = vFun Try.prog Try.f74 [0, 2, 4] [x0] w R := by kernel_rfl
theorem C_disk_Disk_Loose_link {x0 : Value} {w : World} {R : Value → World → Prop} (h : C_disk_Disk_Loose x0 w R) : CallF Try.prog 74 #[x0] w R :=
  callF_eq (fn := Try.f74) (L := [0, 2, 4]) (args := [x0]) C_disk_Disk_Loose_ent Try.func74 (by kernel_rfl) C_disk_Disk_Loose_eq h

/-- (*furlong/disk.Disk).Blocks: function 99 -/
def C_disk_Disk_Blocks (x0 : Value) (w : World) (R : Value → World → Prop) : Prop :=
  Bin Try.prog (At w) .eql 26 false true x0 (.pointer none) fun t4_1 =>
  If t4_1 (
   R (.int .i64 0) w) (
   NilC x0 fun t6_2 =>
   FAd 0 t6_2 fun t7_3 =>
   LdC (At w) t7_3 fun t8_4 =>
   Len t8_4 fun t9_5 =>
   R t9_5 w)
theorem C_disk_Disk_Blocks_ent : Ent Try.prog 99 := ⟨_, Try.func99, by decide, rfl⟩
theorem C_disk_Disk_Blocks_eq {x0 : Value} {w : World} {R : Value → World → Prop} : (C_disk_Disk_Blocks x0 w R) = vFun Try.prog Try.f99 [0, 2, 4] [x0] w R := by kernel_rfl
theorem C_disk_Disk_Blocks_link {x0 : Value} {w : World} {R : Value → World → Prop} (h : C_disk_Disk_Blocks x0 w R) : CallF Try.prog 99 #[x0] w R :=
  callF_eq (fn := Try.f99) (L := [0, 2, 4]) (args := [x0]) C_disk_Disk_Blocks_ent Try.func99 (by kernel_rfl) C_disk_Disk_Blocks_eq h

/-- (*furlong/disk.Disk).Read: function 100 -/
def C_disk_Disk_Read (x0 : Value) (x1 : Value) (w : World) (R : Value → World → Prop) : Prop :=
  Bin Try.prog (At w) .eql 26 false true x0 (.pointer none) fun t9_1 =>
  If t9_1 (
   R (.tuple #[(.slice none 0 0), (.int .i64 17)]) w) (
   Bin Try.prog (At w) .lss 3 false true x1 (.int .i64 0) fun t12_2 =>
   GdP (isB t12_2 false) (fun R => R x1) fun t14_3 =>
   GdP (isB t12_2 false) (fun R => R x0) fun t15_4 =>
   GdP (isB t12_2 false) (fun R => NilC t15_4 R) fun t16_5 =>
   GdP (isB t12_2 false) (fun R => FAd 0 t16_5 R) fun t17_6 =>
   GdP (isB t12_2 false) (fun R => LdC (At w) t17_6 R) fun t18_7 =>
   GdP (isB t12_2 false) (fun R => Len t18_7 R) fun t19_8 =>
   GdP (isB t12_2 false) (fun R => Bin Try.prog (At w) .geq 3 false false t14_3 t19_8 R) fun t20_9 =>
   Pick t12_2 (.bool true) t20_9 fun t21_10 =>
   If t21_10 (
    R (.tuple #[(.slice none 0 0), (.int .i64 8)]) w) (
    NilC x0 fun t23_11 =>
    FAd 0 t23_11 fun t24_12 =>
    LdC (At w) t24_12 fun t25_13 =>
    IAdS 64 t25_13 x1 fun t27_14 =>
    LdA (At w) 64 t27_14 fun t28_15 =>
    Do Try.prog (Instr.alloc 118 true (.tuple #[])) w fun b_6_16 w_17 =>
    DoU Try.prog (Instr.storeAt 118 b_6_16 t28_15) w_17 fun u_18 w_19 =>
    SlcA 64 1 b_6_16 none none none fun t29_20 =>
    Do Try.prog (Builtin.append_ #[24, 24] 24 #[(.slice none 0 0), t29_20]) w_19 fun t30_21 w_22 =>
    R (.tuple #[t30_21, (.int .i64 0)]) w_22))
theorem C_disk_Disk_Read_ent : Ent Try.prog 100 := ⟨_, Try.func100, by decide, rfl⟩
theorem C_disk_Disk_Read_eq {x0 x1 : Value} {w : World} {R : Value → World → Prop} : (C_disk_Disk_Read x0 x1 w R) = vFun Try.prog Try.f100 [0, 1, 4, 5, 6, 7, 10] [x0, x1] w R := by kernel_rfl
theorem C_disk_Disk_Read_link {x0 x1 : Value} {w : World} {R : Value → World → Prop} (h : C_disk_Disk_Read x0 x1 w R) : CallF Try.prog 100 #[x0, x1] w R :=
  callF_eq (fn := Try.f100) (L := [0, 1, 4, 5, 6, 7, 10]) (args := [x0, x1]) C_disk_Disk_Read_ent Try.func100 (by kernel_rfl) C_disk_Disk_Read_eq h

/-- (*furlong/store.Store).blocks$1: function 101 -/
def C_store_Store_blocks_1 (x0 : Value) (x1 : Value) (w : World) (R : Value → World → Prop) : Prop :=
  LdC (At w) x1 fun t10_1 =>
  CallF Try.prog 73 #[t10_1] w fun t11_2 w_3 =>
  ∃ (I_4 : Nat → Value → Value → World → Prop) (m_5 : Nat), I_4 m_5 (.int .u32 0) (.int .i64 0) w_3 ∧
  ∀ m_6, ∀ last_3_7, ∀ t12_8, ∀ w_9, I_4 m_6 last_3_7 t12_8 w_9 →
   Bin Try.prog (At w_9) .lss 3 false false t12_8 t11_2 fun t13_10 =>
   If t13_10 (
    ∃ S_11 : World → Prop, S_11 (World.drew w_9) ∧
    LdC S_11 x1 fun t16_12 =>
    NilC t16_12 fun t17_13 =>
    FAd 0 t17_13 fun t18_14 =>
    LdC S_11 t18_14 fun t19_15 =>
    LdC S_11 x1 fun t20_16 =>
    CallF Try.prog 102 #[t20_16, t12_8] (World.drew w_9) fun t22_17 w_18 =>
    S_11 w_18 ∧
    CallF Try.prog 100 #[t19_15, t22_17] w_18 fun t23_19 w_20 =>
    S_11 w_20 ∧
    Ext t23_19 0 fun t24_21 =>
    Ext t23_19 1 fun t25_22 =>
    ∃ S_23 : World → Prop, S_23 (World.drew w_20) ∧
    SlcS 1 t24_21 (some (.int .i64 4)) none none fun t29_24 =>
    IAdS 1 t24_21 (.int .i64 8) fun t32_25 =>
    LdC S_23 t32_25 fun t33_26 =>
    ConvI .i64 t33_26 fun t34_27 =>
    CallF Try.prog 68 #[t24_21] (World.drew w_20) fun t27_28 w_29 =>
    S_23 w_29 ∧
    CallF Try.prog 68 #[t29_24] w_29 fun t30_30 w_31 =>
    S_23 w_31 ∧
    LdC (At w_31) x1 fun t36_32 =>
    NilC t36_32 fun t37_33 =>
    FAd 1 t37_33 fun t38_34 =>
    LdC (At w_31) t38_34 fun t39_35 =>
    Bin Try.prog (At w_31) .neq 121 false false t27_28 t39_35 fun t40_36 =>
    GdP (isB t40_36 false) (fun R => R t30_30) fun t42_37 =>
    GdP (isB t40_36 false) (fun R => R last_3_7) fun t43_38 =>
    GdP (isB t40_36 false) (fun R => Bin Try.prog (At w_31) .lss 121 false false t42_37 t43_38 R) fun t44_39 =>
    Pick t40_36 (.bool true) t44_39 fun t45_40 =>
    GdP (isB t45_40 false) (fun R => R t34_27) fun t47_41 =>
    GdP (isB t45_40 false) (fun R => Bin Try.prog (At w_31) .gtr 3 false true t47_41 (.int .i64 55) R) fun t48_42 =>
    Pick t45_40 (.bool true) t48_42 fun t49_43 =>
    If t49_43 (
     R (.tuple #[]) w_31) (
     Bin Try.prog (At w_31) .add 3 true false (.int .i64 9) t34_27 fun t55_44 =>
     SlcS 1 t24_21 (some (.int .i64 9)) (some t55_44) none fun t56_45 =>
     CallV Try.prog x0 #[t12_8, t56_45] w_31 fun t57_46 w_47 =>
     Un Try.prog (At w_47) .not t57_46 fun t58_48 =>
     GdP (isB t58_48 false) (fun R => R t34_27) fun t60_49 =>
     GdP (isB t58_48 false) (fun R => Bin Try.prog (At w_47) .lss 3 false true t60_49 (.int .i64 55) R) fun t61_50 =>
     Pick t58_48 (.bool true) t61_50 fun t62_51 =>
     If t62_51 (
      R (.tuple #[]) w_47) (
      Bin Try.prog (At w_47) .add 3 false true t12_8 (.int .i64 1) fun t63_52 =>
      ∃ m_53, m_53 < m_6 ∧
      I_4 m_53 t30_30 t63_52 w_47))) (
    R (.tuple #[]) w_9)
theorem C_store_Store_blocks_1_ent : Ent Try.prog 101 := ⟨_, Try.func101, by decide, rfl⟩
theorem C_store_Store_blocks_1_eq {x0 x1 : Value} {w : World} {R : Value → World → Prop} : (C_store_Store_blocks_1 x0 x1 w R) = vFun Try.prog Try.f101 [0, 1, 3, 4, 5, 7, 8, 9, 11, 12, 13, 49, 62] [x0, x1] w R := by kernel_rfl
theorem C_store_Store_blocks_1_link {x0 x1 : Value} {w : World} {R : Value → World → Prop} (h : C_store_Store_blocks_1 x0 x1 w R) : CallF Try.prog 101 #[x0, x1] w R :=
  callF_eq (fn := Try.f101) (L := [0, 1, 3, 4, 5, 7, 8, 9, 11, 12, 13, 49, 62]) (args := [x0, x1]) C_store_Store_blocks_1_ent Try.func101 (by kernel_rfl) C_store_Store_blocks_1_eq h

/-- (*furlong/store.Store).place: function 102 -/
def C_store_Store_place (x0 : Value) (x1 : Value) (w : World) (R : Value → World → Prop) : Prop :=
  ∃ S_1 : World → Prop, S_1 (World.drew w) ∧
  NilC x0 fun t6_2 =>
  FAd 1 t6_2 fun t7_3 =>
  LdC S_1 t7_3 fun t8_4 =>
  Bin Try.prog S_1 .rem 121 false true t8_4 (.int .u32 2) fun t9_5 =>
  ConvI .i64 t9_5 fun t10_6 =>
  CallF Try.prog 73 #[x0] (World.drew w) fun t12_7 w_8 =>
  S_1 w_8 ∧
  Bin Try.prog S_1 .mul 3 false false t10_6 t12_7 fun t13_9 =>
  Bin Try.prog S_1 .add 3 true false (.int .i64 2) t13_9 fun t14_10 =>
  Bin Try.prog S_1 .add 3 false false t14_10 x1 fun t16_11 =>
  R t16_11 w_8
theorem C_store_Store_place_ent : Ent Try.prog 102 := ⟨_, Try.func102, by decide, rfl⟩
theorem C_store_Store_place_eq {x0 x1 : Value} {w : World} {R : Value → World → Prop} : (C_store_Store_place x0 x1 w R) = vFun Try.prog Try.f102 [0, 1, 4] [x0, x1] w R := by kernel_rfl
theorem C_store_Store_place_link {x0 x1 : Value} {w : World} {R : Value → World → Prop} (h : C_store_Store_place x0 x1 w R) : CallF Try.prog 102 #[x0, x1] w R :=
  callF_eq (fn := Try.f102) (L := [0, 1, 4]) (args := [x0, x1]) C_store_Store_place_ent Try.func102 (by kernel_rfl) C_store_Store_place_eq h

end Go.Proofs.Ytmlaconjeplhpaa
