/- Printed by mill.py (a program of ours): the bodies of Go functions as plain texts over the model's operations, each with its equation. -/
import Derived.Test.YtahipnlffgbjgaaL5
import Derived.Test.YtahipnlffgbjgaaProg
namespace Go.Proofs.Ytahipnlffgbjgaa
open Go L
set_option maxRecDepth 100000
set_option linter.unusedVariables false

theorem mixed : Try.prog.follows .mixedOrders = true := by kernel_rfl

/-- trommel/trommellaw21.QueueOrder -/
def n_trommellaw21_QueueOrder (R : VK) (Kp : PK) (p0 p1 p2 : Value) (w : World) : Prop :=
  oCall Try.prog 7 [] Kp w fun t14 w =>  -- law.go:101
  oUn Try.prog Go.UnOp.not t14 Kp w fun t15 w =>  -- law.go:101
  oCond t15 (
   R (Go.Value.bool Bool.false) w) (
   oCall Try.prog 8 [p0] Kp w fun t17 w =>  -- law.go:104
   oBin Try.prog Go.BinOp.eql 25 (Go.Operand.tmp 18) (Go.Operand.const (Go.Value.pointer Option.none)) t17 (Go.Value.pointer Option.none) Kp w fun t19 w =>  -- law.go:105
   oCond t19 (
    R (Go.Value.bool Bool.false) w) (
    oNil Try.prog t17 Kp w fun t21 w =>  -- law.go:108
    oFA Try.prog 31 t21 0 Kp w fun t22 w =>  -- law.go:108
    oCall Try.prog 9 [t22] Kp w fun t23 w =>  -- law.go:108
    oBI Try.prog Go.Builtin.len #[22] 3 [false] [p1] Kp w fun t25 w =>  -- law.go:110
    nLoop [9, 10, 26] [(Go.Value.slice Option.none 0 0), (Go.Value.slice Option.none 0 0), (Go.Value.int Go.IntKind.i64 0)] w (fun f1 ag1 w =>  -- 9=in, 10=out, 26=
     oBin Try.prog Go.BinOp.lss 3 (Go.Operand.tmp 26) (Go.Operand.tmp 25) (f1 26) t25 Kp w fun t27 w =>  -- law.go:110
     oCond t27 (
      oIA Try.prog 22 p1 (f1 26) Kp w fun t29 w =>  -- law.go:110
      oLoad Try.prog 23 t29 Kp w fun t30 w =>  -- law.go:110
      oCall Try.prog 10 [t17, t30] Kp w fun t33 w =>  -- law.go:111
      oBin Try.prog Go.BinOp.lss 3 (Go.Operand.tmp 34) (Go.Operand.const (Go.Value.int Go.IntKind.i64 0)) t33 (Go.Value.int Go.IntKind.i64 0) Kp w fun t35 w =>  -- law.go:112
      oG (isB t35 false) (fun K => K t33 w) (fun t37 w =>  -- law.go:112
      oG (isB t35 false) (fun K => K t30 w) (fun t38 w =>  -- law.go:112
      oG (isB t35 false) (fun K => oBI Try.prog Go.Builtin.len #[23] 3 [false] [t38] Kp w K) (fun t39 w =>  -- law.go:112
      oG (isB t35 false) (fun K => oBin Try.prog Go.BinOp.gtr 3 (Go.Operand.tmp 37) (Go.Operand.tmp 39) t37 t39 Kp w K) (fun t40 w =>  -- law.go:112
      oPick Try.prog t35 (Go.Value.bool Bool.true) t40 Kp w fun t41 w =>  -- law.go:112
      oG (isB t41 false) (fun K => K t33 w) (fun t43 w =>  -- law.go:112
      oG (isB t41 false) (fun K => K t30 w) (fun t44 w =>  -- law.go:112
      oG (isB t41 false) (fun K => oBI Try.prog Go.Builtin.len #[23] 3 [false] [t44] Kp w K) (fun t45 w =>  -- law.go:112
      oG (isB t41 false) (fun K => oBin Try.prog Go.BinOp.lss 3 (Go.Operand.tmp 43) (Go.Operand.tmp 45) t43 t45 Kp w K) (fun t46 w =>  -- law.go:112
      oG (isB t41 false) (fun K => K t46 w) (fun t47 w =>  -- law.go:112
      oG (isB t47 true) (fun K => K t17 w) (fun t48 w =>  -- law.go:112
      oG (isB t47 true) (fun K => oNil Try.prog t48 Kp w K) (fun t49 w =>  -- law.go:112
      oG (isB t47 true) (fun K => oFA Try.prog 31 t49 0 Kp w K) (fun t50 w =>  -- law.go:112
      oG (isB t47 true) (fun K => oCall Try.prog 9 [t50] Kp w K) (fun t51 w =>  -- law.go:112
      oG (isB t47 true) (fun K => oBin Try.prog Go.BinOp.neq 3 (Go.Operand.tmp 51) (Go.Operand.const (Go.Value.int Go.IntKind.i64 0)) t51 (Go.Value.int Go.IntKind.i64 0) Kp w K) (fun t52 w =>  -- law.go:112
      oG (isB t41 false) (fun K => oPick Try.prog t47 t52 (Go.Value.bool Bool.false) Kp w K) (fun t53 w =>  -- law.go:112
      oPick Try.prog t41 (Go.Value.bool Bool.true) t53 Kp w fun t54 w =>  -- law.go:112
      oCond t54 (
       R (Go.Value.bool Bool.false) w) (
       oSL Try.prog 23 t30 none (some t33) none Kp w fun t58 w =>  -- law.go:115
       oBI Try.prog Go.Builtin.append #[23, 23] 23 [false, false] [(f1 9), t58] Kp w fun t59 w =>  -- law.go:115
       nCut [10] (fun M2 =>
        oBI Try.prog Go.Builtin.len #[23] 3 [false] [p2] Kp w fun t62 w =>  -- law.go:116
        oBin Try.prog Go.BinOp.lss 3 (Go.Operand.tmp 60) (Go.Operand.tmp 62) (f1 26) t62 Kp w fun t63 w =>  -- law.go:116
        oCond t63 (
         oIA Try.prog 23 p2 (f1 26) Kp w fun t68 w =>  -- law.go:117
         oLoad Try.prog 3 t68 Kp w fun t69 w =>  -- law.go:117
         oCall Try.prog 11 [t17, t69] Kp w fun t70 w =>  -- law.go:117
         oBI Try.prog Go.Builtin.append #[23, 23] 23 [false, false] [(f1 10), t70] Kp w fun t71 w =>  -- law.go:117
         M2 [t71] w) (
         M2 [(f1 10)] w))
       (fun g2 w =>
        oD (ptrish t17) (oNil Try.prog t17 noP w.drew (fun t73 w =>  -- law.go:119
        oFA Try.prog 31 t73 0 noP w fun t74 w =>  -- law.go:119
        oCall Try.prog 12 [t74] noP w fun t75 w =>  -- law.go:119
        oD (ptrish t17) (oNil Try.prog t17 noP w (fun t77 w =>  -- law.go:119
        oFA Try.prog 31 t77 0 noP w fun t78 w =>  -- law.go:119
        oCall Try.prog 9 [t78] noP w fun t79 w =>  -- law.go:119
        oD (twin t75 t79) (oBin Try.prog Go.BinOp.add 3 (Go.Operand.tmp 75) (Go.Operand.tmp 79) t75 t79 noP w (fun t80 w =>  -- law.go:119
        oD (twin t80 t23) (oBin Try.prog Go.BinOp.neq 3 (Go.Operand.tmp 80) (Go.Operand.tmp 81) t80 t23 noP w (fun t82 w =>  -- law.go:119
        oG (isB t82 false) (fun K => K t17 w) (fun t84 w =>  -- law.go:119
        oG (isB t82 false) (fun K => oD (ptrish t84) (oNil Try.prog t84 noP w K)) (fun t85 w =>  -- law.go:119
        oG (isB t82 false) (fun K => oFA Try.prog 31 t85 0 noP w K) (fun t86 w =>  -- law.go:119
        oG (isB t82 false) (fun K => oCall Try.prog 12 [t86] noP w K) (fun t87 w =>  -- law.go:119
        oG (isB t82 false) (fun K => K t59 w) (fun t88 w =>  -- law.go:119
        oG (isB t82 false) (fun K => oD (lenOk [t88]) (oBI Try.prog Go.Builtin.len #[23] 3 [false] [t88] noP w K)) (fun t89 w =>  -- law.go:119
        oG (isB t82 false) (fun K => K (g2 10) w) (fun t90 w =>  -- law.go:119
        oG (isB t82 false) (fun K => oD (lenOk [t90]) (oBI Try.prog Go.Builtin.len #[23] 3 [false] [t90] noP w K)) (fun t91 w =>  -- law.go:119
        oG (isB t82 false) (fun K => oD (twin t89 t91) (oBin Try.prog Go.BinOp.sub 3 (Go.Operand.tmp 89) (Go.Operand.tmp 91) t89 t91 noP w K)) (fun t92 w =>  -- law.go:119
        oG (isB t82 false) (fun K => oD (twin t87 t92) (oBin Try.prog Go.BinOp.neq 3 (Go.Operand.tmp 87) (Go.Operand.tmp 92) t87 t92 noP w K)) (fun t93 w =>  -- law.go:119
        oPick Try.prog t82 (Go.Value.bool Bool.true) t93 noP w fun t94 w =>  -- law.go:119
        oCond t94 (
         R (Go.Value.bool Bool.false) w) (
         oBin Try.prog Go.BinOp.add 3 (Go.Operand.tmp 26) (Go.Operand.const (Go.Value.int Go.IntKind.i64 1)) (f1 26) (Go.Value.int Go.IntKind.i64 1) Kp w fun t95 w =>  -- law.go:110
         ag1 [t59, (g2 10), t95] w)) w) w) w) w) w) w) w) w) w) w))))))))))) w) w) w) w) w) w) w) w) w) w) w) w) w) w) w) (
      oCall Try.prog 11 [t17, t23] Kp w fun t99 w =>  -- law.go:123
      oBI Try.prog Go.Builtin.append #[23, 23] 23 [false, false] [(f1 10), t99] Kp w fun t100 w =>  -- law.go:123
      oCall Try.prog 13 [(f1 9), t100] Kp w fun t103 w =>  -- law.go:124
      oG (isB t103 true) (fun K => K t17 w) (fun t105 w =>  -- law.go:124
      oG (isB t103 true) (fun K => oNil Try.prog t105 Kp w K) (fun t106 w =>  -- law.go:124
      oG (isB t103 true) (fun K => oFA Try.prog 31 t106 0 Kp w K) (fun t107 w =>  -- law.go:124
      oG (isB t103 true) (fun K => oCall Try.prog 12 [t107] Kp w K) (fun t108 w =>  -- law.go:124
      oG (isB t103 true) (fun K => oBin Try.prog Go.BinOp.eql 3 (Go.Operand.tmp 108) (Go.Operand.const (Go.Value.int Go.IntKind.i64 0)) t108 (Go.Value.int Go.IntKind.i64 0) Kp w K) (fun t109 w =>  -- law.go:124
      oPick Try.prog t103 t109 (Go.Value.bool Bool.false) Kp w fun t110 w =>  -- law.go:124
      oG (isB t110 true) (fun K => K t23 w) (fun t112 w =>  -- law.go:124
      oG (isB t110 true) (fun K => oBin Try.prog Go.BinOp.geq 3 (Go.Operand.tmp 112) (Go.Operand.const (Go.Value.int Go.IntKind.i64 1)) t112 (Go.Value.int Go.IntKind.i64 1) Kp w K) (fun t113 w =>  -- law.go:124
      oPick Try.prog t110 t113 (Go.Value.bool Bool.false) Kp w fun t114 w =>  -- law.go:124
      oG (isB t114 true) (fun K => K t23 w) (fun t116 w =>  -- law.go:124
      oG (isB t114 true) (fun K => oBin Try.prog Go.BinOp.leq 3 (Go.Operand.tmp 116) (Go.Operand.const (Go.Value.int Go.IntKind.i64 16)) t116 (Go.Value.int Go.IntKind.i64 16) Kp w K) (fun t117 w =>  -- law.go:124
      oPick Try.prog t114 t117 (Go.Value.bool Bool.false) Kp w fun t118 w =>  -- law.go:124
      R t118 w) w) w) w) w) w) w) w) w) w))))
def a_trommellaw21_QueueOrder : Ann := ⟨[(9, [9, 10, 26], 79228162514264337593476857408)], [(17, [10], 4721213561365038367744)], [], []⟩
theorem e_trommellaw21_QueueOrder (R : VK) (Kp : PK) (p0 p1 p2 : Value) (w : World) : W Try.prog a_trommellaw21_QueueOrder Kp (bodyOf Try.f3) (retQ Try.prog Try.f3.results.toList R) (env0 [p0, p1, p2]) w = n_trommellaw21_QueueOrder R Kp p0 p1 p2 w := by kernel_rfl
theorem c_trommellaw21_QueueOrder {R : VK} {Kp : PK} {p0 p1 p2 : Value} {w : World} (h : n_trommellaw21_QueueOrder R Kp p0 p1 p2 w) : Calls Try.prog 3 #[p0, p1, p2] w (callR R Kp) :=
  calls_of_N (an := a_trommellaw21_QueueOrder) (args := [p0, p1, p2]) mixed Try.func3 (by kernel_rfl) (by kernel_rfl) (by kernel_rfl) (e_trommellaw21_QueueOrder R Kp p0 p1 p2 w) h

/-- trommel/trommellaw21.QueueTypes -/
def n_trommellaw21_QueueTypes (R : VK) (Kp : PK) (p0 p1 : Value) (w : World) : Prop :=
  oCall Try.prog 7 [] Kp w fun t20 w =>  -- law.go:135
  oUn Try.prog Go.UnOp.not t20 Kp w fun t21 w =>  -- law.go:135
  oCond t21 (
   R (Go.Value.bool Bool.false) w) (
   oCall Try.prog 8 [p0] Kp w fun t23 w =>  -- law.go:138
   oCall Try.prog 14 [p0] Kp w fun t25 w =>  -- law.go:138
   oCall Try.prog 15 [p0] Kp w fun t27 w =>  -- law.go:138
   oBin Try.prog Go.BinOp.eql 25 (Go.Operand.tmp 28) (Go.Operand.const (Go.Value.pointer Option.none)) t23 (Go.Value.pointer Option.none) Kp w fun t29 w =>  -- law.go:139
   oG (isB t29 false) (fun K => K t25 w) (fun t31 w =>  -- law.go:139
   oG (isB t29 false) (fun K => oBin Try.prog Go.BinOp.eql 37 (Go.Operand.tmp 31) (Go.Operand.const (Go.Value.pointer Option.none)) t31 (Go.Value.pointer Option.none) Kp w K) (fun t32 w =>  -- law.go:139
   oPick Try.prog t29 (Go.Value.bool Bool.true) t32 Kp w fun t33 w =>  -- law.go:139
   oG (isB t33 false) (fun K => K t27 w) (fun t35 w =>  -- law.go:139
   oG (isB t33 false) (fun K => oBin Try.prog Go.BinOp.eql 39 (Go.Operand.tmp 35) (Go.Operand.const (Go.Value.pointer Option.none)) t35 (Go.Value.pointer Option.none) Kp w K) (fun t36 w =>  -- law.go:139
   oPick Try.prog t33 (Go.Value.bool Bool.true) t36 Kp w fun t37 w =>  -- law.go:139
   oCond t37 (
    R (Go.Value.bool Bool.false) w) (
    oBI Try.prog Go.Builtin.len #[36] 3 [false] [p1] Kp w fun t39 w =>  -- law.go:142
    nLoop [40] [(Go.Value.int Go.IntKind.i64 0)] w (fun f1 ag1 w =>  -- 40=
     oBin Try.prog Go.BinOp.lss 3 (Go.Operand.tmp 40) (Go.Operand.tmp 39) (f1 40) t39 Kp w fun t41 w =>  -- law.go:142
     oCond t41 (
      oIA Try.prog 36 p1 (f1 40) Kp w fun t42 w =>  -- law.go:142
      oLoad Try.prog 44 t42 Kp w fun t43 w =>  -- law.go:142
      oAlloc Try.prog 44 Kp w fun t9 w =>  -- law.go:142
      oStore Try.prog 44 t9 t43 Kp w fun _t w =>  -- law.go:142
      nCut [] (fun M2 =>
       oFA Try.prog 44 t9 0 Kp w fun t44 w =>  -- law.go:143
       oLoad Try.prog 3 t44 Kp w fun t45 w =>  -- law.go:143
       oBin Try.prog Go.BinOp.eql 3 (Go.Operand.tmp 45) (Go.Operand.const (Go.Value.int Go.IntKind.i64 2)) t45 (Go.Value.int Go.IntKind.i64 2) Kp w fun t46 w =>  -- law.go:143
       oCond t46 (
        oFA Try.prog 44 t9 2 Kp w fun t47 w =>  -- law.go:146
        oLoad Try.prog 23 t47 Kp w fun t48 w =>  -- law.go:146
        oBI Try.prog Go.Builtin.len #[23] 3 [false] [t48] Kp w fun t49 w =>  -- law.go:146
        nLoop [10, 11, 50] [(Go.Value.slice Option.none 0 0), (Go.Value.slice Option.none 0 0), (Go.Value.int Go.IntKind.i64 0)] w (fun f3 ag3 w =>  -- 10=a, 11=b, 50=
         oBin Try.prog Go.BinOp.lss 3 (Go.Operand.tmp 50) (Go.Operand.tmp 49) (f3 50) t49 Kp w fun t51 w =>  -- law.go:146
         oCond t51 (
          oIA Try.prog 23 t48 (f3 50) Kp w fun t52 w =>  -- law.go:146
          oLoad Try.prog 3 t52 Kp w fun t53 w =>  -- law.go:146
          oCall Try.prog 16 [t53] Kp w fun t56 w =>  -- law.go:147
          oBuildS Try.prog 45 1 [(0, t56)] Kp w fun t57 w =>  -- law.go:147
          oBI Try.prog Go.Builtin.append #[45, 45] 45 [false, false] [(f3 10), t57] Kp w fun t58 w =>  -- law.go:147
          oCall Try.prog 16 [t53] Kp w fun t61 w =>  -- law.go:147
          oBuild Try.prog 42 [(0, t61), (1, t53)] Kp w fun t63 w =>  -- law.go:147
          oBuildS Try.prog 46 1 [(0, t63)] Kp w fun t64 w =>  -- law.go:147
          oBI Try.prog Go.Builtin.append #[46, 46] 46 [false, false] [(f3 11), t64] Kp w fun t65 w =>  -- law.go:147
          oBin Try.prog Go.BinOp.add 3 (Go.Operand.tmp 50) (Go.Operand.const (Go.Value.int Go.IntKind.i64 1)) (f3 50) (Go.Value.int Go.IntKind.i64 1) Kp w fun t66 w =>  -- law.go:146
          ag3 [t58, t65, t66] w) (
          oFA Try.prog 44 t9 2 Kp w fun t68 w =>  -- law.go:149
          oLoad Try.prog 23 t68 Kp w fun t69 w =>  -- law.go:149
          oCall Try.prog 10 [t23, t69] Kp w fun t70 w =>  -- law.go:149
          oCall Try.prog 17 [t25, (f3 10)] Kp w fun t73 w =>  -- law.go:150
          oBin Try.prog Go.BinOp.neq 3 (Go.Operand.tmp 73) (Go.Operand.tmp 74) t73 t70 Kp w fun t75 w =>  -- law.go:150
          oG (isB t75 false) (fun K => K t27 w) (fun t77 w =>  -- law.go:150
          oG (isB t75 false) (fun K => K (f3 11) w) (fun t78 w =>  -- law.go:150
          oG (isB t75 false) (fun K => oCall Try.prog 18 [t77, t78] Kp w K) (fun t79 w =>  -- law.go:150
          oG (isB t75 false) (fun K => K t70 w) (fun t80 w =>  -- law.go:150
          oG (isB t75 false) (fun K => oBin Try.prog Go.BinOp.neq 3 (Go.Operand.tmp 79) (Go.Operand.tmp 80) t79 t80 Kp w K) (fun t81 w =>  -- law.go:150
          oPick Try.prog t75 (Go.Value.bool Bool.true) t81 Kp w fun t82 w =>  -- law.go:150
          oCond t82 (
           R (Go.Value.bool Bool.false) w) (
           M2 [] w)) w) w) w) w) w))) (
        ∃ S4 : World → Prop, S4 w.drew ∧
        oFA Try.prog 44 t9 3 noP w.drew fun t84 w =>  -- law.go:154
        oHL Try.prog S4 3 t84 w fun t85 w =>  -- law.go:154
        oCall Try.prog 11 [t23, t85] noP w fun t86 w => S4 w ∧  -- law.go:154
        oFA Try.prog 44 t9 3 noP w fun t88 w =>  -- law.go:154
        oHL Try.prog S4 3 t88 w fun t89 w =>  -- law.go:154
        oCall Try.prog 19 [t25, t89] noP w fun t90 w => S4 w ∧  -- law.go:154
        oFA Try.prog 44 t9 3 noP w fun t92 w =>  -- law.go:154
        oHL Try.prog S4 3 t92 w fun t93 w =>  -- law.go:154
        oCall Try.prog 20 [t27, t93] noP w fun t94 w =>  -- law.go:154
        oBI Try.prog Go.Builtin.len #[45] 3 [false] [t90] Kp w fun t96 w =>  -- law.go:155
        oBI Try.prog Go.Builtin.len #[23] 3 [false] [t86] Kp w fun t98 w =>  -- law.go:155
        oBin Try.prog Go.BinOp.neq 3 (Go.Operand.tmp 96) (Go.Operand.tmp 98) t96 t98 Kp w fun t99 w =>  -- law.go:155
        oG (isB t99 false) (fun K => K t94 w) (fun t101 w =>  -- law.go:155
        oG (isB t99 false) (fun K => oBI Try.prog Go.Builtin.len #[46] 3 [false] [t101] Kp w K) (fun t102 w =>  -- law.go:155
        oG (isB t99 false) (fun K => K t86 w) (fun t103 w =>  -- law.go:155
        oG (isB t99 false) (fun K => oBI Try.prog Go.Builtin.len #[23] 3 [false] [t103] Kp w K) (fun t104 w =>  -- law.go:155
        oG (isB t99 false) (fun K => oBin Try.prog Go.BinOp.neq 3 (Go.Operand.tmp 102) (Go.Operand.tmp 104) t102 t104 Kp w K) (fun t105 w =>  -- law.go:155
        oPick Try.prog t99 (Go.Value.bool Bool.true) t105 Kp w fun t106 w =>  -- law.go:155
        oCond t106 (
         R (Go.Value.bool Bool.false) w) (
         oBI Try.prog Go.Builtin.len #[23] 3 [false] [t86] Kp w fun t108 w =>  -- law.go:158
         nLoop [109] [(Go.Value.int Go.IntKind.i64 0)] w (fun f5 ag5 w =>  -- 109=
          oBin Try.prog Go.BinOp.lss 3 (Go.Operand.tmp 109) (Go.Operand.tmp 108) (f5 109) t108 Kp w fun t110 w =>  -- law.go:158
          oCond t110 (
           oIA Try.prog 23 t86 (f5 109) Kp w fun t112 w =>  -- law.go:158
           oLoad Try.prog 3 t112 Kp w fun t113 w =>  -- law.go:158
           ∃ S6 : World → Prop, S6 w.drew ∧
           oIA Try.prog 45 t90 (f5 109) noP w.drew fun t116 w =>  -- law.go:159
           oHL Try.prog S6 9 t116 w fun t117 w =>  -- law.go:159
           oCall Try.prog 16 [t113] noP w fun t119 w => S6 w ∧  -- law.go:159
           oD (twin t117 t119) (oBin Try.prog Go.BinOp.neq 9 (Go.Operand.tmp 117) (Go.Operand.tmp 119) t117 t119 noP w (fun t120 w =>  -- law.go:159
           oG (isB t120 false) (fun K => K t94 w) (fun t122 w =>  -- law.go:159
           oG (isB t120 false) (fun K => K (f5 109) w) (fun t123 w =>  -- law.go:159
           oG (isB t120 false) (fun K => oIA Try.prog 46 t122 t123 noP w K) (fun t124 w =>  -- law.go:159
           oG (isB t120 false) (fun K => oHL Try.prog S6 42 t124 w K) (fun t125 w =>  -- law.go:159
           oG (isB t120 false) (fun K => K t113 w) (fun t126 w =>  -- law.go:159
           oG (isB t120 false) (fun K => oCall Try.prog 16 [t126] noP w (fun v w => S6 w ∧ K v w)) (fun t127 w =>  -- law.go:159
           oG (isB t120 false) (fun K => K t113 w) (fun t128 w =>  -- law.go:159
           oG (isB t120 false) (fun K => oBuild Try.prog 42 [(0, t127), (1, t128)] noP w K) (fun t129 w =>  -- law.go:159
           oG (isB t120 false) (fun K => oD (twin t125 t129) (oBin Try.prog Go.BinOp.neq 42 (Go.Operand.tmp 125) (Go.Operand.tmp 129) t125 t129 noP w K)) (fun t130 w =>  -- law.go:159
           oPick Try.prog t120 (Go.Value.bool Bool.true) t130 noP w fun t131 w =>  -- law.go:159
           oCond t131 (
            R (Go.Value.bool Bool.false) w) (
            oBin Try.prog Go.BinOp.add 3 (Go.Operand.tmp 109) (Go.Operand.const (Go.Value.int Go.IntKind.i64 1)) (f5 109) (Go.Value.int Go.IntKind.i64 1) Kp w fun t132 w =>  -- law.go:158
            ag5 [t132] w)) w) w) w) w) w) w) w) w) w))) (
           M2 [] w)))) w) w) w) w) w))
      (fun g2 w =>
       oD (ptrish t25) (oNil Try.prog t25 noP w.drew (fun t134 w =>  -- law.go:164
       oFA Try.prog 53 t134 0 noP w fun t135 w =>  -- law.go:164
       oCall Try.prog 12 [t135] noP w fun t136 w =>  -- law.go:164
       oD (ptrish t23) (oNil Try.prog t23 noP w (fun t138 w =>  -- law.go:164
       oFA Try.prog 31 t138 0 noP w fun t139 w =>  -- law.go:164
       oCall Try.prog 12 [t139] noP w fun t140 w =>  -- law.go:164
       oD (twin t136 t140) (oBin Try.prog Go.BinOp.neq 3 (Go.Operand.tmp 136) (Go.Operand.tmp 140) t136 t140 noP w (fun t141 w =>  -- law.go:164
       oG (isB t141 false) (fun K => K t27 w) (fun t143 w =>  -- law.go:164
       oG (isB t141 false) (fun K => oD (ptrish t143) (oNil Try.prog t143 noP w K)) (fun t144 w =>  -- law.go:164
       oG (isB t141 false) (fun K => oFA Try.prog 55 t144 0 noP w K) (fun t145 w =>  -- law.go:164
       oG (isB t141 false) (fun K => oCall Try.prog 9 [t145] noP w K) (fun t146 w =>  -- law.go:164
       oG (isB t141 false) (fun K => K t23 w) (fun t147 w =>  -- law.go:164
       oG (isB t141 false) (fun K => oD (ptrish t147) (oNil Try.prog t147 noP w K)) (fun t148 w =>  -- law.go:164
       oG (isB t141 false) (fun K => oFA Try.prog 31 t148 0 noP w K) (fun t149 w =>  -- law.go:164
       oG (isB t141 false) (fun K => oCall Try.prog 9 [t149] noP w K) (fun t150 w =>  -- law.go:164
       oG (isB t141 false) (fun K => oD (twin t146 t150) (oBin Try.prog Go.BinOp.neq 3 (Go.Operand.tmp 146) (Go.Operand.tmp 150) t146 t150 noP w K)) (fun t151 w =>  -- law.go:164
       oPick Try.prog t141 (Go.Value.bool Bool.true) t151 noP w fun t152 w =>  -- law.go:164
       oCond t152 (
        R (Go.Value.bool Bool.false) w) (
        oBin Try.prog Go.BinOp.add 3 (Go.Operand.tmp 40) (Go.Operand.const (Go.Value.int Go.IntKind.i64 1)) (f1 40) (Go.Value.int Go.IntKind.i64 1) Kp w fun t153 w =>  -- law.go:142
        ag1 [t153] w)) w) w) w) w) w) w) w) w) w)))))))) (
      R (Go.Value.bool Bool.true) w)))) w) w) w) w)
def a_trommellaw21_QueueTypes : Ann := ⟨[(7, [40], 22835963083295358096932575511191921082613362192), (13, [10, 11, 50], 147572826689769581568), (24, [109], 10889035092432923513974533871504542400528)], [(29, [], 10889035741470030830827987420224397765648)], [], []⟩
theorem e_trommellaw21_QueueTypes (R : VK) (Kp : PK) (p0 p1 : Value) (w : World) : W Try.prog a_trommellaw21_QueueTypes Kp (bodyOf Try.f4) (retQ Try.prog Try.f4.results.toList R) (env0 [p0, p1]) w = n_trommellaw21_QueueTypes R Kp p0 p1 w := by kernel_rfl
theorem c_trommellaw21_QueueTypes {R : VK} {Kp : PK} {p0 p1 : Value} {w : World} (h : n_trommellaw21_QueueTypes R Kp p0 p1 w) : Calls Try.prog 4 #[p0, p1] w (callR R Kp) :=
  calls_of_N (an := a_trommellaw21_QueueTypes) (args := [p0, p1]) mixed Try.func4 (by kernel_rfl) (by kernel_rfl) (by kernel_rfl) (e_trommellaw21_QueueTypes R Kp p0 p1 w) h

/-- trommel/trommellaw21.QueuePlays -/
def n_trommellaw21_QueuePlays (R : VK) (Kp : PK) (p0 : Value) (w : World) : Prop :=
  oCall Try.prog 7 [] Kp w fun t21 w =>  -- law.go:51
  oUn Try.prog Go.UnOp.not t21 Kp w fun t22 w =>  -- law.go:51
  oCond t22 (
   R (Go.Value.bool Bool.false) w) (
   oAlloc Try.prog 57 Kp w fun t3 w =>  -- law.go:54
   oAlloc Try.prog 59 Kp w fun t4 w =>  -- law.go:55
   nLoop [23] [(Go.Value.int Go.IntKind.i64 0)] w (fun f1 ag1 w =>  -- 23=
    oBin Try.prog Go.BinOp.lss 3 (Go.Operand.tmp 23) (Go.Operand.const (Go.Value.int Go.IntKind.i64 4)) (f1 23) (Go.Value.int Go.IntKind.i64 4) Kp w fun t24 w =>  -- law.go:56
    oCond t24 (
     oCall Try.prog 8 [(f1 23)] noP w.drew fun t29 w =>  -- law.go:57
     oCall Try.prog 21 [(f1 23)] noP w fun t31 w =>  -- law.go:57
     oIA Try.prog 57 t3 (f1 23) noP w fun t32 w =>  -- law.go:57
     oStore Try.prog 25 t32 t29 noP w fun _t w =>  -- law.go:57
     oIA Try.prog 59 t4 (f1 23) noP w fun t33 w =>  -- law.go:57
     oStore Try.prog 58 t33 t31 noP w fun _t w =>  -- law.go:57
     oIA Try.prog 57 t3 (f1 23) Kp w fun t35 w =>  -- law.go:58
     oLoad Try.prog 25 t35 Kp w fun t36 w =>  -- law.go:58
     oBin Try.prog Go.BinOp.eql 25 (Go.Operand.tmp 36) (Go.Operand.const (Go.Value.pointer Option.none)) t36 (Go.Value.pointer Option.none) Kp w fun t37 w =>  -- law.go:58
     oCond t37 (
      R (Go.Value.bool Bool.false) w) (
      oBin Try.prog Go.BinOp.add 3 (Go.Operand.tmp 23) (Go.Operand.const (Go.Value.int Go.IntKind.i64 1)) (f1 23) (Go.Value.int Go.IntKind.i64 1) Kp w fun t38 w =>  -- law.go:56
      ag1 [t38] w)) (
     oBI Try.prog Go.Builtin.len #[36] 3 [false] [p0] Kp w fun t40 w =>  -- law.go:62
     nLoop [41] [(Go.Value.int Go.IntKind.i64 0)] w (fun f2 ag2 w =>  -- 41=
      oBin Try.prog Go.BinOp.lss 3 (Go.Operand.tmp 41) (Go.Operand.tmp 40) (f2 41) t40 Kp w fun t42 w =>  -- law.go:62
      oCond t42 (
       oIA Try.prog 36 p0 (f2 41) Kp w fun t43 w =>  -- law.go:62
       oLoad Try.prog 44 t43 Kp w fun t44 w =>  -- law.go:62
       oAlloc Try.prog 44 Kp w fun t7 w =>  -- law.go:62
       oStore Try.prog 44 t7 t44 Kp w fun _t w =>  -- law.go:62
       oFA Try.prog 44 t7 1 Kp w fun t45 w =>  -- law.go:63
       oLoad Try.prog 3 t45 Kp w fun t46 w =>  -- law.go:63
       oBin Try.prog Go.BinOp.and 3 (Go.Operand.tmp 46) (Go.Operand.const (Go.Value.int Go.IntKind.i64 3)) t46 (Go.Value.int Go.IntKind.i64 3) Kp w fun t47 w =>  -- law.go:63
       oFA Try.prog 44 t7 2 Kp w fun t48 w =>  -- law.go:64
       oLoad Try.prog 23 t48 Kp w fun t49 w =>  -- law.go:64
       oCall Try.prog 22 [t49] Kp w fun t50 w =>  -- law.go:64
       nCut [10] (fun M3 =>
        oFA Try.prog 44 t7 0 Kp w fun t51 w =>  -- law.go:66
        oLoad Try.prog 3 t51 Kp w fun t52 w =>  -- law.go:66
        oBin Try.prog Go.BinOp.eql 3 (Go.Operand.tmp 52) (Go.Operand.const (Go.Value.int Go.IntKind.i64 1)) t52 (Go.Value.int Go.IntKind.i64 1) Kp w fun t54 w =>  -- law.go:67
        oCond t54 (
         ∃ S4 : World → Prop, S4 w.drew ∧
         oFA Try.prog 44 t7 3 noP w.drew fun t57 w =>  -- law.go:68
         oHL Try.prog S4 3 t57 w fun t58 w =>  -- law.go:68
         oCall Try.prog 8 [t58] noP w fun t59 w => S4 w ∧  -- law.go:68
         oFA Try.prog 44 t7 3 noP w fun t60 w =>  -- law.go:68
         oHL Try.prog S4 3 t60 w fun t61 w =>  -- law.go:68
         oCall Try.prog 21 [t61] noP w fun t62 w =>  -- law.go:68
         oIA Try.prog 57 t3 t47 noP w fun t63 w =>  -- law.go:68
         oStore Try.prog 25 t63 t59 noP w fun _t w =>  -- law.go:68
         oIA Try.prog 59 t4 t47 noP w fun t64 w =>  -- law.go:68
         oStore Try.prog 58 t64 t62 noP w fun _t w =>  -- law.go:68
         oIA Try.prog 57 t3 t47 Kp w fun t66 w =>  -- law.go:69
         oLoad Try.prog 25 t66 Kp w fun t67 w =>  -- law.go:69
         oBin Try.prog Go.BinOp.neq 25 (Go.Operand.tmp 67) (Go.Operand.const (Go.Value.pointer Option.none)) t67 (Go.Value.pointer Option.none) Kp w fun t68 w =>  -- law.go:69
         M3 [t68] w) (
         oBin Try.prog Go.BinOp.eql 3 (Go.Operand.tmp 52) (Go.Operand.const (Go.Value.int Go.IntKind.i64 2)) t52 (Go.Value.int Go.IntKind.i64 2) Kp w fun t70 w =>  -- law.go:70
         oCond t70 (
          ∃ S5 : World → Prop, S5 w.drew ∧
          oIA Try.prog 57 t3 t47 noP w.drew fun t72 w =>  -- law.go:71
          oHL Try.prog S5 25 t72 w fun t73 w =>  -- law.go:71
          oCall Try.prog 10 [t73, t50] noP w fun t75 w => S5 w ∧  -- law.go:71
          oIA Try.prog 59 t4 t47 noP w fun t77 w =>  -- law.go:71
          oHL Try.prog S5 58 t77 w fun t78 w =>  -- law.go:71
          oFA Try.prog 44 t7 2 noP w fun t79 w =>  -- law.go:71
          oHL Try.prog S5 23 t79 w fun t80 w =>  -- law.go:71
          oCall Try.prog 23 [t78, t80] noP w fun t81 w =>  -- law.go:71
          oD (twin t75 t81) (oBin Try.prog Go.BinOp.eql 3 (Go.Operand.tmp 75) (Go.Operand.tmp 81) t75 t81 noP w (fun t82 w =>  -- law.go:71
          M3 [t82] w))) (
          oBin Try.prog Go.BinOp.eql 3 (Go.Operand.tmp 52) (Go.Operand.const (Go.Value.int Go.IntKind.i64 3)) t52 (Go.Value.int Go.IntKind.i64 3) Kp w fun t84 w =>  -- law.go:72
          oCond t84 (
           oIA Try.prog 57 t3 t47 noP w.drew fun t86 w =>  -- law.go:73
           oLD Try.prog 25 t86 w fun t87 w =>  -- law.go:73
           oFA Try.prog 44 t7 3 noP w fun t88 w =>  -- law.go:73
           oLD Try.prog 3 t88 w fun t89 w =>  -- law.go:73
           oCall Try.prog 11 [t87, t89] noP w fun t90 w =>  -- law.go:73
           oIA Try.prog 59 t4 t47 noP w.drew fun t93 w =>  -- law.go:74
           oLD Try.prog 58 t93 w fun t94 w =>  -- law.go:74
           oFA Try.prog 44 t7 3 noP w fun t95 w =>  -- law.go:74
           oLD Try.prog 3 t95 w fun t96 w =>  -- law.go:74
           oCall Try.prog 24 [t94, t96] noP w fun t97 w =>  -- law.go:74
           oCall Try.prog 13 [t90, t97] noP w fun t98 w =>  -- law.go:74
           oCall Try.prog 25 [t90] Kp w fun t100 w =>  -- law.go:75
           M3 [t98] w) (
           oBin Try.prog Go.BinOp.eql 3 (Go.Operand.tmp 52) (Go.Operand.const (Go.Value.int Go.IntKind.i64 4)) t52 (Go.Value.int Go.IntKind.i64 4) Kp w fun t102 w =>  -- law.go:76
           oCond t102 (
            oFA Try.prog 44 t7 2 Kp w fun t103 w =>  -- law.go:79
            oLoad Try.prog 23 t103 Kp w fun t104 w =>  -- law.go:79
            oBI Try.prog Go.Builtin.len #[23] 3 [false] [t104] Kp w fun t105 w =>  -- law.go:79
            nLoop [12, 13, 106] [(Go.Value.slice Option.none 0 0), (Go.Value.slice Option.none 0 0), (Go.Value.int Go.IntKind.i64 0)] w (fun f6 ag6 w =>  -- 12=qs, 13=rs, 106=
             oBin Try.prog Go.BinOp.lss 3 (Go.Operand.tmp 106) (Go.Operand.tmp 105) (f6 106) t105 Kp w fun t107 w =>  -- law.go:79
             oCond t107 (
              oIA Try.prog 23 t104 (f6 106) Kp w fun t108 w =>  -- law.go:79
              oLoad Try.prog 3 t108 Kp w fun t109 w =>  -- law.go:79
              ∃ S7 : World → Prop, S7 w.drew ∧
              oD (twin t109 (Go.Value.int Go.IntKind.i64 3)) (oBin Try.prog Go.BinOp.and 3 (Go.Operand.tmp 111) (Go.Operand.const (Go.Value.int Go.IntKind.i64 3)) t109 (Go.Value.int Go.IntKind.i64 3) noP w.drew (fun t112 w =>  -- law.go:80
              oIA Try.prog 57 t3 t112 noP w fun t113 w =>  -- law.go:80
              oHL Try.prog S7 25 t113 w fun t114 w =>  -- law.go:80
              oD (twin t109 (Go.Value.int Go.IntKind.i64 3)) (oBin Try.prog Go.BinOp.and 3 (Go.Operand.tmp 118) (Go.Operand.const (Go.Value.int Go.IntKind.i64 3)) t109 (Go.Value.int Go.IntKind.i64 3) noP w (fun t119 w =>  -- law.go:80
              oIA Try.prog 59 t4 t119 noP w fun t120 w =>  -- law.go:80
              oHL Try.prog S7 58 t120 w fun t121 w =>  -- law.go:80
              oAnd (
               oBuildS Try.prog 64 1 [(0, t114)] noP w fun t115 w => S7 w ∧  -- law.go:80
               oAnd (
                oBI Try.prog Go.Builtin.append #[64, 64] 64 [false, false] [(f6 12), t115] noP w fun t116 w => S7 w ∧  -- law.go:80
                oBuildS Try.prog 65 1 [(0, t121)] noP w fun t122 w => S7 w ∧  -- law.go:80
                oBI Try.prog Go.Builtin.append #[65, 65] 65 [false, false] [(f6 13), t122] noP w fun t123 w =>  -- law.go:80
                oBin Try.prog Go.BinOp.add 3 (Go.Operand.tmp 106) (Go.Operand.const (Go.Value.int Go.IntKind.i64 1)) (f6 106) (Go.Value.int Go.IntKind.i64 1) Kp w fun t124 w =>  -- law.go:79
                ag6 [t116, t123, t124] w) (
                oBuildS Try.prog 65 1 [(0, t121)] noP w fun t122 w => S7 w ∧  -- law.go:80
                oBI Try.prog Go.Builtin.append #[64, 64] 64 [false, false] [(f6 12), t115] noP w fun t116 w => S7 w ∧  -- law.go:80
                oBI Try.prog Go.Builtin.append #[65, 65] 65 [false, false] [(f6 13), t122] noP w fun t123 w =>  -- law.go:80
                oBin Try.prog Go.BinOp.add 3 (Go.Operand.tmp 106) (Go.Operand.const (Go.Value.int Go.IntKind.i64 1)) (f6 106) (Go.Value.int Go.IntKind.i64 1) Kp w fun t124 w =>  -- law.go:79
                ag6 [t116, t123, t124] w)) (
               oBuildS Try.prog 65 1 [(0, t121)] noP w fun t122 w => S7 w ∧  -- law.go:80
               oBuildS Try.prog 64 1 [(0, t114)] noP w fun t115 w => S7 w ∧  -- law.go:80
               oBI Try.prog Go.Builtin.append #[64, 64] 64 [false, false] [(f6 12), t115] noP w fun t116 w => S7 w ∧  -- law.go:80
               oBI Try.prog Go.Builtin.append #[65, 65] 65 [false, false] [(f6 13), t122] noP w fun t123 w =>  -- law.go:80
               oBin Try.prog Go.BinOp.add 3 (Go.Operand.tmp 106) (Go.Operand.const (Go.Value.int Go.IntKind.i64 1)) (f6 106) (Go.Value.int Go.IntKind.i64 1) Kp w fun t124 w =>  -- law.go:79
               ag6 [t116, t123, t124] w)))))) (
              oCall Try.prog 26 [(f6 12)] Kp w fun t127 w =>  -- law.go:82
              oEX Try.prog t127 0 Kp w fun t128 w =>  -- law.go:82
              oEX Try.prog t127 1 Kp w fun t129 w =>  -- law.go:82
              oCall Try.prog 27 [(f6 13)] Kp w fun t132 w =>  -- law.go:83
              oEX Try.prog t132 0 Kp w fun t133 w =>  -- law.go:83
              oEX Try.prog t132 1 Kp w fun t134 w =>  -- law.go:83
              oCall Try.prog 13 [t128, t133] Kp w fun t137 w =>  -- law.go:84
              oG (isB t137 true) (fun K => K t129 w) (fun t139 w =>  -- law.go:84
              oG (isB t137 true) (fun K => K t134 w) (fun t140 w =>  -- law.go:84
              oG (isB t137 true) (fun K => oBin Try.prog Go.BinOp.eql 4 (Go.Operand.tmp 139) (Go.Operand.tmp 140) t139 t140 Kp w K) (fun t141 w =>  -- law.go:84
              oPick Try.prog t137 t141 (Go.Value.bool Bool.false) Kp w fun t142 w =>  -- law.go:84
              M3 [t142] w) w) w) w))) (
            M3 [(Go.Value.bool Bool.true)] w)))))
       (fun g3 w =>
        oUn Try.prog Go.UnOp.not (g3 10) Kp w fun t144 w =>  -- law.go:86
        oG (isB t144 false) (fun K => K t50 w) (fun t146 w =>  -- law.go:86
        oG (isB t144 false) (fun K => oFA Try.prog 44 t7 2 Kp w K) (fun t147 w =>  -- law.go:86
        oG (isB t144 false) (fun K => oLoad Try.prog 23 t147 Kp w K) (fun t148 w =>  -- law.go:86
        oG (isB t144 false) (fun K => oCall Try.prog 28 [t146, t148] Kp w K) (fun t149 w =>  -- law.go:86
        oG (isB t144 false) (fun K => oUn Try.prog Go.UnOp.not t149 Kp w K) (fun t150 w =>  -- law.go:86
        oPick Try.prog t144 (Go.Value.bool Bool.true) t150 Kp w fun t151 w =>  -- law.go:86
        oCond t151 (
         R (Go.Value.bool Bool.false) w) (
         oCall Try.prog 25 [t50] Kp w fun t153 w =>  -- law.go:89
         nLoop [154] [(Go.Value.int Go.IntKind.i64 0)] w (fun f8 ag8 w =>  -- 154=
          oBin Try.prog Go.BinOp.lss 3 (Go.Operand.tmp 154) (Go.Operand.const (Go.Value.int Go.IntKind.i64 4)) (f8 154) (Go.Value.int Go.IntKind.i64 4) Kp w fun t155 w =>  -- law.go:90
          oCond t155 (
           oIA Try.prog 57 t3 (f8 154) noP w.drew fun t158 w =>  -- law.go:91
           oLD Try.prog 25 t158 w fun t159 w =>  -- law.go:91
           oIA Try.prog 59 t4 (f8 154) noP w fun t161 w =>  -- law.go:91
           oLD Try.prog 58 t161 w fun t162 w =>  -- law.go:91
           oCall Try.prog 29 [t159, t162] noP w fun t163 w =>  -- law.go:91
           oUn Try.prog Go.UnOp.not t163 noP w fun t164 w =>  -- law.go:91
           oCond t164 (
            R (Go.Value.bool Bool.false) w) (
            oBin Try.prog Go.BinOp.add 3 (Go.Operand.tmp 154) (Go.Operand.const (Go.Value.int Go.IntKind.i64 1)) (f8 154) (Go.Value.int Go.IntKind.i64 1) Kp w fun t165 w =>  -- law.go:90
            ag8 [t165] w)) (
           oBin Try.prog Go.BinOp.add 3 (Go.Operand.tmp 41) (Go.Operand.const (Go.Value.int Go.IntKind.i64 1)) (f2 41) (Go.Value.int Go.IntKind.i64 1) Kp w fun t166 w =>  -- law.go:62
           ag2 [t166] w)))) w) w) w) w) w)) (
       R (Go.Value.bool Bool.true) w)))))
def a_trommellaw21_QueuePlays : Ann := ⟨[(6, [23], 549747425316), (13, [41], 187072209578355573530071658587684226513760344326020), (32, [12, 13, 106], 42535214735478893326240130139965927424), (43, [154], 93513268826094491406938896718330921335797559853060)], [(39, [10], 11150372599265311570767859134072380940336128)], [(34, (.one 0 (.one 1 (.one 2 (.one 3 (.one 4 (.one 7 (.one 8 (.one 9 (.one 10 (.one 11 (.alt 5 (.alt 6 (.one 12 (.one 13 (.one 14 (.one 15 .nil)))) (.one 12 (.one 6 (.one 13 (.one 14 (.one 15 .nil)))))) (.one 12 (.one 5 (.one 6 (.one 13 (.one 14 (.one 15 .nil))))))))))))))))))], []⟩
theorem e_trommellaw21_QueuePlays (R : VK) (Kp : PK) (p0 : Value) (w : World) : W Try.prog a_trommellaw21_QueuePlays Kp (bodyOf Try.f5) (retQ Try.prog Try.f5.results.toList R) (env0 [p0]) w = n_trommellaw21_QueuePlays R Kp p0 w := by kernel_rfl
theorem c_trommellaw21_QueuePlays {R : VK} {Kp : PK} {p0 : Value} {w : World} (h : n_trommellaw21_QueuePlays R Kp p0 w) : Calls Try.prog 5 #[p0] w (callR R Kp) :=
  calls_of_N (an := a_trommellaw21_QueuePlays) (args := [p0]) mixed Try.func5 (by kernel_rfl) (by kernel_rfl) (by kernel_rfl) (e_trommellaw21_QueuePlays R Kp p0 w) h

/-- trommel/trommellaw21.QueueHeads -/
def n_trommellaw21_QueueHeads (R : VK) (Kp : PK) (p0 : Value) (w : World) : Prop :=
  oCall Try.prog 7 [] Kp w fun t18 w =>  -- more.go:10
  oUn Try.prog Go.UnOp.not t18 Kp w fun t19 w =>  -- more.go:10
  oCond t19 (
   R (Go.Value.bool Bool.false) w) (
   oBI Try.prog Go.Builtin.len #[22] 3 [false] [p0] Kp w fun t21 w =>  -- more.go:15
   nLoop [3, 4, 22] [(Go.Value.slice Option.none 0 0), (Go.Value.int Go.IntKind.i64 16), (Go.Value.int Go.IntKind.i64 0)] w (fun f1 ag1 w =>  -- 3=qs, 4=least, 22=
    oBin Try.prog Go.BinOp.lss 3 (Go.Operand.tmp 22) (Go.Operand.tmp 21) (f1 22) t21 Kp w fun t23 w =>  -- more.go:15
    oCond t23 (
     oIA Try.prog 22 p0 (f1 22) Kp w fun t24 w =>  -- more.go:15
     oLoad Try.prog 23 t24 Kp w fun t25 w =>  -- more.go:15
     oCall Try.prog 8 [(Go.Value.int Go.IntKind.i64 16)] Kp w fun t26 w =>  -- more.go:16
     oBin Try.prog Go.BinOp.eql 25 (Go.Operand.tmp 27) (Go.Operand.const (Go.Value.pointer Option.none)) t26 (Go.Value.pointer Option.none) Kp w fun t28 w =>  -- more.go:17
     oCond t28 (
      R (Go.Value.bool Bool.false) w) (
      oCall Try.prog 10 [t26, t25] Kp w fun t32 w =>  -- more.go:20
      oBI Try.prog Go.Builtin.min #[3, 3] 3 [false, false] [(f1 4), t32] Kp w fun t33 w =>  -- more.go:20
      oBuildS Try.prog 64 1 [(0, t26)] Kp w fun t36 w =>  -- more.go:21
      oBI Try.prog Go.Builtin.append #[64, 64] 64 [false, false] [(f1 3), t36] Kp w fun t37 w =>  -- more.go:21
      oBin Try.prog Go.BinOp.add 3 (Go.Operand.tmp 22) (Go.Operand.const (Go.Value.int Go.IntKind.i64 1)) (f1 22) (Go.Value.int Go.IntKind.i64 1) Kp w fun t38 w =>  -- more.go:15
      ag1 [t37, t33, t38] w)) (
     oBI Try.prog Go.Builtin.len #[22] 3 [false] [p0] Kp w fun t40 w =>  -- more.go:23
     oBin Try.prog Go.BinOp.eql 3 (Go.Operand.tmp 40) (Go.Operand.const (Go.Value.int Go.IntKind.i64 0)) t40 (Go.Value.int Go.IntKind.i64 0) Kp w fun t41 w =>  -- more.go:23
     oCond t41 (
      oCall Try.prog 26 [(Go.Value.slice Option.none 0 0)] Kp w fun t43 w =>  -- more.go:24
      oEX Try.prog t43 0 Kp w fun t44 w =>  -- more.go:24
      oEX Try.prog t43 1 Kp w fun t45 w =>  -- more.go:24
      oG (isB t45 true) (fun K => K t44 w) (fun t48 w =>  -- more.go:25
      oG (isB t45 true) (fun K => oBI Try.prog Go.Builtin.len #[23] 3 [false] [t48] Kp w K) (fun t49 w =>  -- more.go:25
      oG (isB t45 true) (fun K => oBin Try.prog Go.BinOp.eql 3 (Go.Operand.tmp 49) (Go.Operand.const (Go.Value.int Go.IntKind.i64 0)) t49 (Go.Value.int Go.IntKind.i64 0) Kp w K) (fun t50 w =>  -- more.go:25
      oPick Try.prog t45 t50 (Go.Value.bool Bool.false) Kp w fun t51 w =>  -- more.go:25
      R t51 w) w) w) w) (
      nLoop [10] [(Go.Value.int Go.IntKind.i64 0)] w (fun f2 ag2 w =>  -- 10=i
       oBin Try.prog Go.BinOp.lss 3 (Go.Operand.tmp 52) (Go.Operand.tmp 53) (f2 10) (f1 4) Kp w fun t54 w =>  -- more.go:27
       oCond t54 (
        oCall Try.prog 26 [(f1 3)] Kp w fun t59 w =>  -- more.go:28
        oEX Try.prog t59 0 Kp w fun t60 w =>  -- more.go:28
        oEX Try.prog t59 1 Kp w fun t61 w =>  -- more.go:28
        oUn Try.prog Go.UnOp.not t61 Kp w fun t63 w =>  -- more.go:29
        oG (isB t63 false) (fun K => K t60 w) (fun t65 w =>  -- more.go:29
        oG (isB t63 false) (fun K => oBI Try.prog Go.Builtin.len #[23] 3 [false] [t65] Kp w K) (fun t66 w =>  -- more.go:29
        oG (isB t63 false) (fun K => K p0 w) (fun t67 w =>  -- more.go:29
        oG (isB t63 false) (fun K => oBI Try.prog Go.Builtin.len #[22] 3 [false] [t67] Kp w K) (fun t68 w =>  -- more.go:29
        oG (isB t63 false) (fun K => oBin Try.prog Go.BinOp.neq 3 (Go.Operand.tmp 66) (Go.Operand.tmp 68) t66 t68 Kp w K) (fun t69 w =>  -- more.go:29
        oPick Try.prog t63 (Go.Value.bool Bool.true) t69 Kp w fun t70 w =>  -- more.go:29
        oCond t70 (
         R (Go.Value.bool Bool.false) w) (
         oBI Try.prog Go.Builtin.len #[23] 3 [false] [t60] Kp w fun t72 w =>  -- more.go:32
         nLoop [73] [(Go.Value.int Go.IntKind.i64 0)] w (fun f3 ag3 w =>  -- 73=
          oBin Try.prog Go.BinOp.lss 3 (Go.Operand.tmp 73) (Go.Operand.tmp 72) (f3 73) t72 Kp w fun t74 w =>  -- more.go:32
          oCond t74 (
           oIA Try.prog 23 t60 (f3 73) noP w.drew fun t78 w =>  -- more.go:33
           oLD Try.prog 3 t78 w fun t79 w =>  -- more.go:33
           oIA Try.prog 22 p0 (f3 73) noP w fun t82 w =>  -- more.go:33
           oLD Try.prog 23 t82 w fun t83 w =>  -- more.go:33
           oIA Try.prog 23 t83 (f2 10) noP w fun t85 w =>  -- more.go:33
           oLD Try.prog 3 t85 w fun t86 w =>  -- more.go:33
           oD (twin t79 t86) (oBin Try.prog Go.BinOp.neq 3 (Go.Operand.tmp 79) (Go.Operand.tmp 86) t79 t86 noP w (fun t87 w =>  -- more.go:33
           oCond t87 (
            R (Go.Value.bool Bool.false) w) (
            oBin Try.prog Go.BinOp.add 3 (Go.Operand.tmp 73) (Go.Operand.const (Go.Value.int Go.IntKind.i64 1)) (f3 73) (Go.Value.int Go.IntKind.i64 1) Kp w fun t88 w =>  -- more.go:32
            ag3 [t88] w)))) (
           oBin Try.prog Go.BinOp.add 3 (Go.Operand.tmp 55) (Go.Operand.const (Go.Value.int Go.IntKind.i64 1)) (f2 10) (Go.Value.int Go.IntKind.i64 1) Kp w fun t56 w =>  -- more.go:27
           ag2 [t56] w)))) w) w) w) w) w) (
        oCall Try.prog 26 [(f1 3)] Kp w fun t91 w =>  -- more.go:38
        oEX Try.prog t91 0 Kp w fun t92 w =>  -- more.go:38
        oEX Try.prog t91 1 Kp w fun t93 w =>  -- more.go:38
        oBI Try.prog Go.Builtin.len #[64] 3 [false] [(f1 3)] Kp w fun t95 w =>  -- more.go:39
        nLoop [96] [(Go.Value.int Go.IntKind.i64 0)] w (fun f4 ag4 w =>  -- 96=
         oBin Try.prog Go.BinOp.lss 3 (Go.Operand.tmp 96) (Go.Operand.tmp 95) (f4 96) t95 Kp w fun t97 w =>  -- more.go:39
         oCond t97 (
          oIA Try.prog 64 (f1 3) (f4 96) Kp w fun t99 w =>  -- more.go:39
          oLoad Try.prog 25 t99 Kp w fun t100 w =>  -- more.go:39
          ∃ S5 : World → Prop, S5 w.drew ∧
          oCall Try.prog 30 [t100] noP w.drew fun t102 w => S5 w ∧  -- more.go:40
          oIA Try.prog 22 p0 (f4 96) noP w fun t105 w =>  -- more.go:40
          oHL Try.prog S5 23 t105 w fun t106 w =>  -- more.go:40
          oIA Try.prog 22 p0 (f4 96) noP w fun t110 w =>  -- more.go:40
          oHL Try.prog S5 23 t110 w fun t111 w =>  -- more.go:40
          oD (lenOk [t111]) (oBI Try.prog Go.Builtin.len #[23] 3 [false] [t111] noP w (fun t112 w =>  -- more.go:40
          oD (intsOk [t112, (Go.Value.int Go.IntKind.i64 16)]) (oBI Try.prog Go.Builtin.min #[3, 3] 3 [false, true] [t112, (Go.Value.int Go.IntKind.i64 16)] noP w (fun t113 w =>  -- more.go:40
          oSL Try.prog 23 t106 (some (f1 4)) (some t113) none noP w fun t114 w =>  -- more.go:40
          oCall Try.prog 13 [t102, t114] noP w fun t115 w =>  -- more.go:40
          oUn Try.prog Go.UnOp.not t115 noP w fun t116 w =>  -- more.go:40
          oCond t116 (
           R (Go.Value.bool Bool.false) w) (
           oBin Try.prog Go.BinOp.add 3 (Go.Operand.tmp 96) (Go.Operand.const (Go.Value.int Go.IntKind.i64 1)) (f4 96) (Go.Value.int Go.IntKind.i64 1) Kp w fun t117 w =>  -- more.go:39
           ag4 [t117] w)))))) (
          oUn Try.prog Go.UnOp.not t93 Kp w fun t119 w =>  -- more.go:44
          oG (isB t119 true) (fun K => K t92 w) (fun t121 w =>  -- more.go:44
          oG (isB t119 true) (fun K => oBI Try.prog Go.Builtin.len #[23] 3 [false] [t121] Kp w K) (fun t122 w =>  -- more.go:44
          oG (isB t119 true) (fun K => oBin Try.prog Go.BinOp.eql 3 (Go.Operand.tmp 122) (Go.Operand.const (Go.Value.int Go.IntKind.i64 0)) t122 (Go.Value.int Go.IntKind.i64 0) Kp w K) (fun t123 w =>  -- more.go:44
          oPick Try.prog t119 t123 (Go.Value.bool Bool.false) Kp w fun t124 w =>  -- more.go:44
          R t124 w) w) w) w))))))))
def a_trommellaw21_QueueHeads : Ann := ⟨[(6, [3, 4, 22], 549751619804), (18, [10], 618970019638186537822206980), (24, [73], 618960574909724398159142916), (31, [96], 332306919718066453961614171526332420)], [], [], []⟩
theorem e_trommellaw21_QueueHeads (R : VK) (Kp : PK) (p0 : Value) (w : World) : W Try.prog a_trommellaw21_QueueHeads Kp (bodyOf Try.f6) (retQ Try.prog Try.f6.results.toList R) (env0 [p0]) w = n_trommellaw21_QueueHeads R Kp p0 w := by kernel_rfl
theorem c_trommellaw21_QueueHeads {R : VK} {Kp : PK} {p0 : Value} {w : World} (h : n_trommellaw21_QueueHeads R Kp p0 w) : Calls Try.prog 6 #[p0] w (callR R Kp) :=
  calls_of_N (an := a_trommellaw21_QueueHeads) (args := [p0]) mixed Try.func6 (by kernel_rfl) (by kernel_rfl) (by kernel_rfl) (e_trommellaw21_QueueHeads R Kp p0 w) h

/-- trommel/trommellaw21.fixed -/
def n_trommellaw21_fixed (R : VK) (Kp : PK) (w : World) : Prop :=
  oCall Try.prog 8 [(Go.Value.int Go.IntKind.i64 2)] Kp w fun t7 w =>  -- law.go:27
  oCall Try.prog 14 [(Go.Value.int Go.IntKind.i64 1)] Kp w fun t8 w =>  -- law.go:28
  oBin Try.prog Go.BinOp.eql 25 (Go.Operand.tmp 9) (Go.Operand.const (Go.Value.pointer Option.none)) t7 (Go.Value.pointer Option.none) Kp w fun t10 w =>  -- law.go:29
  oG (isB t10 false) (fun K => K t8 w) (fun t12 w =>  -- law.go:29
  oG (isB t10 false) (fun K => oBin Try.prog Go.BinOp.eql 37 (Go.Operand.tmp 12) (Go.Operand.const (Go.Value.pointer Option.none)) t12 (Go.Value.pointer Option.none) Kp w K) (fun t13 w =>  -- law.go:29
  oPick Try.prog t10 (Go.Value.bool Bool.true) t13 Kp w fun t14 w =>  -- law.go:29
  oG (isB t14 false) (fun K => K t7 w) (fun t16 w =>  -- law.go:29
  oG (isB t14 false) (fun K => oBuildS Try.prog 23 3 [(0, (Go.Value.int Go.IntKind.i64 1)), (1, (Go.Value.int Go.IntKind.i64 2)), (2, (Go.Value.int Go.IntKind.i64 3))] Kp w K) (fun t17 w =>  -- law.go:29
  oG (isB t14 false) (fun K => oCall Try.prog 10 [t16, t17] Kp w K) (fun t18 w =>  -- law.go:29
  oG (isB t14 false) (fun K => oBin Try.prog Go.BinOp.neq 3 (Go.Operand.tmp 18) (Go.Operand.const (Go.Value.int Go.IntKind.i64 2)) t18 (Go.Value.int Go.IntKind.i64 2) Kp w K) (fun t19 w =>  -- law.go:29
  oPick Try.prog t14 (Go.Value.bool Bool.true) t19 Kp w fun t20 w =>  -- law.go:29
  oG (isB t20 false) (fun K => K t7 w) (fun t22 w =>  -- law.go:29
  oG (isB t20 false) (fun K => oNil Try.prog t22 Kp w K) (fun t23 w =>  -- law.go:29
  oG (isB t20 false) (fun K => oFA Try.prog 31 t23 0 Kp w K) (fun t24 w =>  -- law.go:29
  oG (isB t20 false) (fun K => oCall Try.prog 9 [t24] Kp w K) (fun t25 w =>  -- law.go:29
  oG (isB t20 false) (fun K => oBin Try.prog Go.BinOp.neq 3 (Go.Operand.tmp 25) (Go.Operand.const (Go.Value.int Go.IntKind.i64 0)) t25 (Go.Value.int Go.IntKind.i64 0) Kp w K) (fun t26 w =>  -- law.go:29
  oPick Try.prog t20 (Go.Value.bool Bool.true) t26 Kp w fun t27 w =>  -- law.go:29
  oG (isB t27 false) (fun K => K t7 w) (fun t29 w =>  -- law.go:29
  oG (isB t27 false) (fun K => oNil Try.prog t29 Kp w K) (fun t30 w =>  -- law.go:29
  oG (isB t27 false) (fun K => oFA Try.prog 31 t30 0 Kp w K) (fun t31 w =>  -- law.go:29
  oG (isB t27 false) (fun K => oCall Try.prog 12 [t31] Kp w K) (fun t32 w =>  -- law.go:29
  oG (isB t27 false) (fun K => oBin Try.prog Go.BinOp.neq 3 (Go.Operand.tmp 32) (Go.Operand.const (Go.Value.int Go.IntKind.i64 2)) t32 (Go.Value.int Go.IntKind.i64 2) Kp w K) (fun t33 w =>  -- law.go:29
  oPick Try.prog t27 (Go.Value.bool Bool.true) t33 Kp w fun t34 w =>  -- law.go:29
  oG (isB t34 false) (fun K => K t8 w) (fun t36 w =>  -- law.go:29
  oG (isB t34 false) (fun K => oBuildS Try.prog 45 1 [(0, (Go.Value.string (ByteArray.mk #[120])))] Kp w K) (fun t37 w =>  -- law.go:29
  oG (isB t34 false) (fun K => oCall Try.prog 17 [t36, t37] Kp w K) (fun t38 w =>  -- law.go:29
  oG (isB t34 false) (fun K => oBin Try.prog Go.BinOp.neq 3 (Go.Operand.tmp 38) (Go.Operand.const (Go.Value.int Go.IntKind.i64 1)) t38 (Go.Value.int Go.IntKind.i64 1) Kp w K) (fun t39 w =>  -- law.go:29
  oPick Try.prog t34 (Go.Value.bool Bool.true) t39 Kp w fun t40 w =>  -- law.go:29
  oCond t40 (
   R (Go.Value.bool Bool.false) w) (
   oCall Try.prog 31 [t7] Kp w fun t43 w =>  -- law.go:32
   oEX Try.prog t43 0 Kp w fun t44 w =>  -- law.go:32
   oEX Try.prog t43 1 Kp w fun t45 w =>  -- law.go:32
   oCall Try.prog 32 [t8] Kp w fun t48 w =>  -- law.go:33
   oEX Try.prog t48 0 Kp w fun t49 w =>  -- law.go:33
   oEX Try.prog t48 1 Kp w fun t50 w =>  -- law.go:33
   oG (isB t45 true) (fun K => K t44 w) (fun t53 w =>  -- law.go:34
   oG (isB t45 true) (fun K => oBin Try.prog Go.BinOp.eql 3 (Go.Operand.tmp 53) (Go.Operand.const (Go.Value.int Go.IntKind.i64 1)) t53 (Go.Value.int Go.IntKind.i64 1) Kp w K) (fun t54 w =>  -- law.go:34
   oPick Try.prog t45 t54 (Go.Value.bool Bool.false) Kp w fun t55 w =>  -- law.go:34
   oG (isB t55 true) (fun K => K t50 w) (fun t57 w =>  -- law.go:34
   oPick Try.prog t55 t57 (Go.Value.bool Bool.false) Kp w fun t58 w =>  -- law.go:34
   oG (isB t58 true) (fun K => K t49 w) (fun t60 w =>  -- law.go:34
   oG (isB t58 true) (fun K => oBin Try.prog Go.BinOp.eql 9 (Go.Operand.tmp 60) (Go.Operand.const (Go.Value.string (ByteArray.mk #[120]))) t60 (Go.Value.string (ByteArray.mk #[120])) Kp w K) (fun t61 w =>  -- law.go:34
   oPick Try.prog t58 t61 (Go.Value.bool Bool.false) Kp w fun t62 w =>  -- law.go:34
   oG (isB t62 true) (fun K => K t7 w) (fun t64 w =>  -- law.go:34
   oG (isB t62 true) (fun K => oCall Try.prog 30 [t64] Kp w K) (fun t65 w =>  -- law.go:34
   oG (isB t62 true) (fun K => oBuildS Try.prog 23 2 [(0, (Go.Value.int Go.IntKind.i64 1)), (1, (Go.Value.int Go.IntKind.i64 2))] Kp w K) (fun t66 w =>  -- law.go:34
   oG (isB t62 true) (fun K => oCall Try.prog 13 [t65, t66] Kp w K) (fun t67 w =>  -- law.go:34
   oPick Try.prog t62 t67 (Go.Value.bool Bool.false) Kp w fun t68 w =>  -- law.go:34
   oG (isB t68 true) (fun K => K t7 w) (fun t70 w =>  -- law.go:34
   oG (isB t68 true) (fun K => oCall Try.prog 11 [t70, (Go.Value.int Go.IntKind.i64 5)] Kp w K) (fun t71 w =>  -- law.go:34
   oG (isB t68 true) (fun K => oBuildS Try.prog 23 2 [(0, (Go.Value.int Go.IntKind.i64 1)), (1, (Go.Value.int Go.IntKind.i64 2))] Kp w K) (fun t72 w =>  -- law.go:34
   oG (isB t68 true) (fun K => oCall Try.prog 13 [t71, t72] Kp w K) (fun t73 w =>  -- law.go:34
   oPick Try.prog t68 t73 (Go.Value.bool Bool.false) Kp w fun t74 w =>  -- law.go:34
   oG (isB t74 true) (fun K => K t7 w) (fun t76 w =>  -- law.go:34
   oG (isB t74 true) (fun K => oNil Try.prog t76 Kp w K) (fun t77 w =>  -- law.go:34
   oG (isB t74 true) (fun K => oFA Try.prog 31 t77 0 Kp w K) (fun t78 w =>  -- law.go:34
   oG (isB t74 true) (fun K => oCall Try.prog 12 [t78] Kp w K) (fun t79 w =>  -- law.go:34
   oG (isB t74 true) (fun K => oBin Try.prog Go.BinOp.eql 3 (Go.Operand.tmp 79) (Go.Operand.const (Go.Value.int Go.IntKind.i64 0)) t79 (Go.Value.int Go.IntKind.i64 0) Kp w K) (fun t80 w =>  -- law.go:34
   oPick Try.prog t74 t80 (Go.Value.bool Bool.false) Kp w fun t81 w =>  -- law.go:34
   R t81 w) w) w) w) w) w) w) w) w) w) w) w) w) w) w) w) w) w) w)) w) w) w) w) w) w) w) w) w) w) w) w) w) w) w) w) w) w) w) w
def a_trommellaw21_fixed : Ann := ⟨[], [], [], []⟩
theorem e_trommellaw21_fixed (R : VK) (Kp : PK) (w : World) : W Try.prog a_trommellaw21_fixed Kp (bodyOf Try.f7) (retQ Try.prog Try.f7.results.toList R) (env0 []) w = n_trommellaw21_fixed R Kp  w := by kernel_rfl
theorem c_trommellaw21_fixed {R : VK} {Kp : PK} {w : World} (h : n_trommellaw21_fixed R Kp  w) : Calls Try.prog 7 #[] w (callR R Kp) :=
  calls_of_N (an := a_trommellaw21_fixed) (args := []) mixed Try.func7 (by kernel_rfl) (by kernel_rfl) (by kernel_rfl) (e_trommellaw21_fixed R Kp  w) h

/-- trommel/queue.New[int] -/
def n_queue_New_int (R : VK) (Kp : PK) (p0 : Value) (w : World) : Prop :=
  oBI Try.prog Go.Builtin.max #[3, 3] 3 [false, true] [p0, (Go.Value.int Go.IntKind.i64 1)] Kp w fun t4 w =>  -- queue.go:29
  oBI Try.prog Go.Builtin.min #[3, 3] 3 [false, true] [t4, (Go.Value.int Go.IntKind.i64 16)] Kp w fun t5 w =>  -- queue.go:29
  oBuild Try.prog 29 [(1, t5)] Kp w fun t6 w =>  -- queue.go:29
  oBuild Try.prog 31 [(0, t6)] Kp w fun t7 w =>  -- queue.go:29
  oBox Try.prog 31 t7 Kp w fun t8 w =>  -- queue.go:29
  R t8 w
def a_queue_New_int : Ann := ⟨[], [], [], []⟩
theorem e_queue_New_int (R : VK) (Kp : PK) (p0 : Value) (w : World) : W Try.prog a_queue_New_int Kp (bodyOf Try.f8) (retQ Try.prog Try.f8.results.toList R) (env0 [p0]) w = n_queue_New_int R Kp p0 w := by kernel_rfl
theorem c_queue_New_int {R : VK} {Kp : PK} {p0 : Value} {w : World} (h : n_queue_New_int R Kp p0 w) : Calls Try.prog 8 #[p0] w (callR R Kp) :=
  calls_of_N (an := a_queue_New_int) (args := [p0]) mixed Try.func8 (by kernel_rfl) (by kernel_rfl) (by kernel_rfl) (e_queue_New_int R Kp p0 w) h

/-- (*trommel/queue.Fill).Room -/
def n_queue_Fill_Room (R : VK) (Kp : PK) (p0 : Value) (w : World) : Prop :=
  oD (ptrish p0) (oNil Try.prog p0 noP w.drew (fun t4 w =>  -- queue.go:19
  oFA Try.prog 29 t4 1 noP w fun t5 w =>  -- queue.go:19
  oLD Try.prog 3 t5 w fun t6 w =>  -- queue.go:19
  oD (ptrish p0) (oNil Try.prog p0 noP w (fun t8 w =>  -- queue.go:19
  oFA Try.prog 29 t8 0 noP w fun t9 w =>  -- queue.go:19
  oLD Try.prog 3 t9 w fun t10 w =>  -- queue.go:19
  oD (twin t6 t10) (oBin Try.prog Go.BinOp.sub 3 (Go.Operand.tmp 6) (Go.Operand.tmp 10) t6 t10 noP w (fun t11 w =>  -- queue.go:19
  R t11 w))))))
def a_queue_Fill_Room : Ann := ⟨[], [], [], []⟩
theorem e_queue_Fill_Room (R : VK) (Kp : PK) (p0 : Value) (w : World) : W Try.prog a_queue_Fill_Room Kp (bodyOf Try.f9) (retQ Try.prog Try.f9.results.toList R) (env0 [p0]) w = n_queue_Fill_Room R Kp p0 w := by kernel_rfl
theorem c_queue_Fill_Room {R : VK} {Kp : PK} {p0 : Value} {w : World} (h : n_queue_Fill_Room R Kp p0 w) : Calls Try.prog 9 #[p0] w (callR R Kp) :=
  calls_of_N (an := a_queue_Fill_Room) (args := [p0]) mixed Try.func9 (by kernel_rfl) (by kernel_rfl) (by kernel_rfl) (e_queue_Fill_Room R Kp p0 w) h

/-- (*trommel/queue.Queue[int]).Put -/
def n_queue_Queue_int_Put (R : VK) (Kp : PK) (p0 p1 : Value) (w : World) : Prop :=
  oBI Try.prog Go.Builtin.len #[23] 3 [false] [p1] Kp w fun t7 w =>  -- queue.go:34
  oNil Try.prog p0 Kp w fun t9 w =>  -- queue.go:34
  oFA Try.prog 31 t9 0 Kp w fun t10 w =>  -- queue.go:34
  oCall Try.prog 9 [t10] Kp w fun t11 w =>  -- queue.go:34
  oBI Try.prog Go.Builtin.min #[3, 3] 3 [false, false] [t7, t11] Kp w fun t12 w =>  -- queue.go:34
  oD (ptrish p0) (oNil Try.prog p0 noP w.drew (fun t15 w =>  -- queue.go:35
  oFA Try.prog 31 t15 1 noP w fun t16 w =>  -- queue.go:35
  oLD Try.prog 23 t16 w fun t17 w =>  -- queue.go:35
  oSL Try.prog 23 p1 none (some t12) none noP w fun t20 w =>  -- queue.go:35
  oBI Try.prog Go.Builtin.append #[23, 23] 23 [false, false] [t17, t20] noP w fun t21 w =>  -- queue.go:35
  oD (ptrish p0) (oNil Try.prog p0 noP w (fun t22 w =>  -- queue.go:35
  oFA Try.prog 31 t22 1 noP w fun t23 w =>  -- queue.go:35
  oStore Try.prog 23 t23 t21 noP w fun _t w =>  -- queue.go:35
  oNil Try.prog p0 Kp w fun t25 w =>  -- queue.go:36
  oFA Try.prog 31 t25 0 Kp w fun t26 w =>  -- queue.go:36
  oFA Try.prog 29 t26 0 Kp w fun t27 w =>  -- queue.go:36
  oLoad Try.prog 3 t27 Kp w fun t28 w =>  -- queue.go:36
  oBin Try.prog Go.BinOp.add 3 (Go.Operand.tmp 28) (Go.Operand.tmp 29) t28 t12 Kp w fun t30 w =>  -- queue.go:36
  oNil Try.prog p0 Kp w fun t31 w =>  -- queue.go:36
  oFA Try.prog 31 t31 0 Kp w fun t32 w =>  -- queue.go:36
  oFA Try.prog 29 t32 0 Kp w fun t33 w =>  -- queue.go:36
  oStore Try.prog 3 t33 t30 Kp w fun _t w =>  -- queue.go:36
  R t12 w))))
def a_queue_Queue_int_Put : Ann := ⟨[], [], [], []⟩
theorem e_queue_Queue_int_Put (R : VK) (Kp : PK) (p0 p1 : Value) (w : World) : W Try.prog a_queue_Queue_int_Put Kp (bodyOf Try.f10) (retQ Try.prog Try.f10.results.toList R) (env0 [p0, p1]) w = n_queue_Queue_int_Put R Kp p0 p1 w := by kernel_rfl
theorem c_queue_Queue_int_Put {R : VK} {Kp : PK} {p0 p1 : Value} {w : World} (h : n_queue_Queue_int_Put R Kp p0 p1 w) : Calls Try.prog 10 #[p0, p1] w (callR R Kp) :=
  calls_of_N (an := a_queue_Queue_int_Put) (args := [p0, p1]) mixed Try.func10 (by kernel_rfl) (by kernel_rfl) (by kernel_rfl) (e_queue_Queue_int_Put R Kp p0 p1 w) h

/-- (*trommel/queue.Queue[int]).Take -/
def n_queue_Queue_int_Take (R : VK) (Kp : PK) (p0 p1 : Value) (w : World) : Prop :=
  oBI Try.prog Go.Builtin.max #[3, 3] 3 [false, true] [p1, (Go.Value.int Go.IntKind.i64 0)] Kp w fun t7 w =>  -- queue.go:42
  oNil Try.prog p0 Kp w fun t9 w =>  -- queue.go:42
  oFA Try.prog 31 t9 0 Kp w fun t10 w =>  -- queue.go:42
  oFA Try.prog 29 t10 0 Kp w fun t11 w =>  -- queue.go:42
  oLoad Try.prog 3 t11 Kp w fun t12 w =>  -- queue.go:42
  oBI Try.prog Go.Builtin.min #[3, 3] 3 [false, false] [t7, t12] Kp w fun t13 w =>  -- queue.go:42
  oNil Try.prog p0 Kp w fun t15 w =>  -- queue.go:43
  oFA Try.prog 31 t15 1 Kp w fun t16 w =>  -- queue.go:43
  oLoad Try.prog 23 t16 Kp w fun t17 w =>  -- queue.go:43
  oSL Try.prog 23 t17 none (some t13) none Kp w fun t19 w =>  -- queue.go:43
  oCall Try.prog 33 [t19] Kp w fun t20 w =>  -- queue.go:43
  oNil Try.prog p0 Kp w fun t23 w =>  -- queue.go:44
  oFA Try.prog 31 t23 1 Kp w fun t24 w =>  -- queue.go:44
  oLoad Try.prog 23 t24 Kp w fun t25 w =>  -- queue.go:44
  oSL Try.prog 23 t25 (some t13) none none Kp w fun t27 w =>  -- queue.go:44
  oCall Try.prog 33 [t27] Kp w fun t28 w =>  -- queue.go:44
  oNil Try.prog p0 Kp w fun t29 w =>  -- queue.go:44
  oFA Try.prog 31 t29 1 Kp w fun t30 w =>  -- queue.go:44
  oStore Try.prog 23 t30 t28 Kp w fun _t w =>  -- queue.go:44
  oNil Try.prog p0 Kp w fun t32 w =>  -- queue.go:45
  oFA Try.prog 31 t32 0 Kp w fun t33 w =>  -- queue.go:45
  oFA Try.prog 29 t33 0 Kp w fun t34 w =>  -- queue.go:45
  oLoad Try.prog 3 t34 Kp w fun t35 w =>  -- queue.go:45
  oBin Try.prog Go.BinOp.sub 3 (Go.Operand.tmp 35) (Go.Operand.tmp 36) t35 t13 Kp w fun t37 w =>  -- queue.go:45
  oNil Try.prog p0 Kp w fun t38 w =>  -- queue.go:45
  oFA Try.prog 31 t38 0 Kp w fun t39 w =>  -- queue.go:45
  oFA Try.prog 29 t39 0 Kp w fun t40 w =>  -- queue.go:45
  oStore Try.prog 3 t40 t37 Kp w fun _t w =>  -- queue.go:45
  R t20 w
def a_queue_Queue_int_Take : Ann := ⟨[], [], [], []⟩
theorem e_queue_Queue_int_Take (R : VK) (Kp : PK) (p0 p1 : Value) (w : World) : W Try.prog a_queue_Queue_int_Take Kp (bodyOf Try.f11) (retQ Try.prog Try.f11.results.toList R) (env0 [p0, p1]) w = n_queue_Queue_int_Take R Kp p0 p1 w := by kernel_rfl
theorem c_queue_Queue_int_Take {R : VK} {Kp : PK} {p0 p1 : Value} {w : World} (h : n_queue_Queue_int_Take R Kp p0 p1 w) : Calls Try.prog 11 #[p0, p1] w (callR R Kp) :=
  calls_of_N (an := a_queue_Queue_int_Take) (args := [p0, p1]) mixed Try.func11 (by kernel_rfl) (by kernel_rfl) (by kernel_rfl) (e_queue_Queue_int_Take R Kp p0 p1 w) h

/-- (*trommel/queue.Fill).Len -/
def n_queue_Fill_Len (R : VK) (Kp : PK) (p0 : Value) (w : World) : Prop :=
  oNil Try.prog p0 Kp w fun t4 w =>  -- queue.go:16
  oFA Try.prog 29 t4 0 Kp w fun t5 w =>  -- queue.go:16
  oLoad Try.prog 3 t5 Kp w fun t6 w =>  -- queue.go:16
  R t6 w
def a_queue_Fill_Len : Ann := ⟨[], [], [], []⟩
theorem e_queue_Fill_Len (R : VK) (Kp : PK) (p0 : Value) (w : World) : W Try.prog a_queue_Fill_Len Kp (bodyOf Try.f12) (retQ Try.prog Try.f12.results.toList R) (env0 [p0]) w = n_queue_Fill_Len R Kp p0 w := by kernel_rfl
theorem c_queue_Fill_Len {R : VK} {Kp : PK} {p0 : Value} {w : World} (h : n_queue_Fill_Len R Kp p0 w) : Calls Try.prog 12 #[p0] w (callR R Kp) :=
  calls_of_N (an := a_queue_Fill_Len) (args := [p0]) mixed Try.func12 (by kernel_rfl) (by kernel_rfl) (by kernel_rfl) (e_queue_Fill_Len R Kp p0 w) h

/-- trommel/trommelmem.SameInts -/
def n_trommelmem_SameInts (R : VK) (Kp : PK) (p0 p1 : Value) (w : World) : Prop :=
  oBI Try.prog Go.Builtin.len #[23] 3 [false] [p0] Kp w fun t7 w =>  -- mem.go:46
  oBI Try.prog Go.Builtin.len #[23] 3 [false] [p1] Kp w fun t9 w =>  -- mem.go:46
  oBin Try.prog Go.BinOp.neq 3 (Go.Operand.tmp 7) (Go.Operand.tmp 9) t7 t9 Kp w fun t10 w =>  -- mem.go:46
  oCond t10 (
   R (Go.Value.bool Bool.false) w) (
   oBI Try.prog Go.Builtin.len #[23] 3 [false] [p0] Kp w fun t12 w =>  -- mem.go:49
   nLoop [13] [(Go.Value.int Go.IntKind.i64 0)] w (fun f1 ag1 w =>  -- 13=
    oBin Try.prog Go.BinOp.lss 3 (Go.Operand.tmp 13) (Go.Operand.tmp 12) (f1 13) t12 Kp w fun t14 w =>  -- mem.go:49
    oCond t14 (
     oIA Try.prog 23 p0 (f1 13) noP w.drew fun t18 w =>  -- mem.go:50
     oLD Try.prog 3 t18 w fun t19 w =>  -- mem.go:50
     oIA Try.prog 23 p1 (f1 13) noP w fun t22 w =>  -- mem.go:50
     oLD Try.prog 3 t22 w fun t23 w =>  -- mem.go:50
     oD (twin t19 t23) (oBin Try.prog Go.BinOp.neq 3 (Go.Operand.tmp 19) (Go.Operand.tmp 23) t19 t23 noP w (fun t24 w =>  -- mem.go:50
     oCond t24 (
      R (Go.Value.bool Bool.false) w) (
      oBin Try.prog Go.BinOp.add 3 (Go.Operand.tmp 13) (Go.Operand.const (Go.Value.int Go.IntKind.i64 1)) (f1 13) (Go.Value.int Go.IntKind.i64 1) Kp w fun t25 w =>  -- mem.go:49
      ag1 [t25] w)))) (
     R (Go.Value.bool Bool.true) w)))
def a_trommelmem_SameInts : Ann := ⟨[(4, [13], 67100720)], [], [], []⟩
theorem e_trommelmem_SameInts (R : VK) (Kp : PK) (p0 p1 : Value) (w : World) : W Try.prog a_trommelmem_SameInts Kp (bodyOf Try.f13) (retQ Try.prog Try.f13.results.toList R) (env0 [p0, p1]) w = n_trommelmem_SameInts R Kp p0 p1 w := by kernel_rfl
theorem c_trommelmem_SameInts {R : VK} {Kp : PK} {p0 p1 : Value} {w : World} (h : n_trommelmem_SameInts R Kp p0 p1 w) : Calls Try.prog 13 #[p0, p1] w (callR R Kp) :=
  calls_of_N (an := a_trommelmem_SameInts) (args := [p0, p1]) mixed Try.func13 (by kernel_rfl) (by kernel_rfl) (by kernel_rfl) (e_trommelmem_SameInts R Kp p0 p1 w) h

/-- trommel/queue.New[string] -/
def n_queue_New_string (R : VK) (Kp : PK) (p0 : Value) (w : World) : Prop :=
  oBI Try.prog Go.Builtin.max #[3, 3] 3 [false, true] [p0, (Go.Value.int Go.IntKind.i64 1)] Kp w fun t4 w =>  -- queue.go:29
  oBI Try.prog Go.Builtin.min #[3, 3] 3 [false, true] [t4, (Go.Value.int Go.IntKind.i64 16)] Kp w fun t5 w =>  -- queue.go:29
  oBuild Try.prog 29 [(1, t5)] Kp w fun t6 w =>  -- queue.go:29
  oBuild Try.prog 53 [(0, t6)] Kp w fun t7 w =>  -- queue.go:29
  oBox Try.prog 53 t7 Kp w fun t8 w =>  -- queue.go:29
  R t8 w
def a_queue_New_string : Ann := ⟨[], [], [], []⟩
theorem e_queue_New_string (R : VK) (Kp : PK) (p0 : Value) (w : World) : W Try.prog a_queue_New_string Kp (bodyOf Try.f14) (retQ Try.prog Try.f14.results.toList R) (env0 [p0]) w = n_queue_New_string R Kp p0 w := by kernel_rfl
theorem c_queue_New_string {R : VK} {Kp : PK} {p0 : Value} {w : World} (h : n_queue_New_string R Kp p0 w) : Calls Try.prog 14 #[p0] w (callR R Kp) :=
  calls_of_N (an := a_queue_New_string) (args := [p0]) mixed Try.func14 (by kernel_rfl) (by kernel_rfl) (by kernel_rfl) (e_queue_New_string R Kp p0 w) h

/-- trommel/queue.New[trommel/trommellaw21.item] -/
def n_queue_New_trommellaw21_item (R : VK) (Kp : PK) (p0 : Value) (w : World) : Prop :=
  oBI Try.prog Go.Builtin.max #[3, 3] 3 [false, true] [p0, (Go.Value.int Go.IntKind.i64 1)] Kp w fun t4 w =>  -- queue.go:29
  oBI Try.prog Go.Builtin.min #[3, 3] 3 [false, true] [t4, (Go.Value.int Go.IntKind.i64 16)] Kp w fun t5 w =>  -- queue.go:29
  oBuild Try.prog 29 [(1, t5)] Kp w fun t6 w =>  -- queue.go:29
  oBuild Try.prog 55 [(0, t6)] Kp w fun t7 w =>  -- queue.go:29
  oBox Try.prog 55 t7 Kp w fun t8 w =>  -- queue.go:29
  R t8 w
def a_queue_New_trommellaw21_item : Ann := ⟨[], [], [], []⟩
theorem e_queue_New_trommellaw21_item (R : VK) (Kp : PK) (p0 : Value) (w : World) : W Try.prog a_queue_New_trommellaw21_item Kp (bodyOf Try.f15) (retQ Try.prog Try.f15.results.toList R) (env0 [p0]) w = n_queue_New_trommellaw21_item R Kp p0 w := by kernel_rfl
theorem c_queue_New_trommellaw21_item {R : VK} {Kp : PK} {p0 : Value} {w : World} (h : n_queue_New_trommellaw21_item R Kp p0 w) : Calls Try.prog 15 #[p0] w (callR R Kp) :=
  calls_of_N (an := a_queue_New_trommellaw21_item) (args := [p0]) mixed Try.func15 (by kernel_rfl) (by kernel_rfl) (by kernel_rfl) (e_queue_New_trommellaw21_item R Kp p0 w) h

/-- trommel/trommellaw21.name -/
def n_trommellaw21_name (R : VK) (Kp : PK) (p0 : Value) (w : World) : Prop :=
  nLoop [3, 4] [(Go.Value.slice Option.none 0 0), (Go.Value.int Go.IntKind.i64 0)] w (fun f1 ag1 w =>  -- 3=b, 4=k
   oBin Try.prog Go.BinOp.lss 3 (Go.Operand.tmp 5) (Go.Operand.const (Go.Value.int Go.IntKind.i64 8)) (f1 4) (Go.Value.int Go.IntKind.i64 8) Kp w fun t6 w =>  -- law.go:174
   oCond t6 (
    oCV Try.prog 3 79 p0 Kp w fun t11 w =>  -- law.go:175
    oBin Try.prog Go.BinOp.mul 3 (Go.Operand.const (Go.Value.int Go.IntKind.i64 8)) (Go.Operand.tmp 12) (Go.Value.int Go.IntKind.i64 8) (f1 4) Kp w fun t13 w =>  -- law.go:175
    oBin Try.prog Go.BinOp.shr 79 (Go.Operand.tmp 11) (Go.Operand.tmp 13) t11 t13 Kp w fun t14 w =>  -- law.go:175
    oCV Try.prog 79 5 t14 Kp w fun t15 w =>  -- law.go:175
    oBuildS Try.prog 78 1 [(0, t15)] Kp w fun t16 w =>  -- law.go:175
    oBI Try.prog Go.Builtin.append #[78, 78] 78 [false, false] [(f1 3), t16] Kp w fun t17 w =>  -- law.go:175
    oBin Try.prog Go.BinOp.add 3 (Go.Operand.tmp 7) (Go.Operand.const (Go.Value.int Go.IntKind.i64 1)) (f1 4) (Go.Value.int Go.IntKind.i64 1) Kp w fun t8 w =>  -- law.go:174
    ag1 [t17, t8] w) (
    oCV Try.prog 78 9 (f1 3) Kp w fun t19 w =>  -- law.go:177
    R t19 w))
def a_trommellaw21_name : Ann := ⟨[(3, [3, 4], 262136)], [], [], []⟩
theorem e_trommellaw21_name (R : VK) (Kp : PK) (p0 : Value) (w : World) : W Try.prog a_trommellaw21_name Kp (bodyOf Try.f16) (retQ Try.prog Try.f16.results.toList R) (env0 [p0]) w = n_trommellaw21_name R Kp p0 w := by kernel_rfl
theorem c_trommellaw21_name {R : VK} {Kp : PK} {p0 : Value} {w : World} (h : n_trommellaw21_name R Kp p0 w) : Calls Try.prog 16 #[p0] w (callR R Kp) :=
  calls_of_N (an := a_trommellaw21_name) (args := [p0]) mixed Try.func16 (by kernel_rfl) (by kernel_rfl) (by kernel_rfl) (e_trommellaw21_name R Kp p0 w) h

/-- (*trommel/queue.Queue[string]).Put -/
def n_queue_Queue_string_Put (R : VK) (Kp : PK) (p0 p1 : Value) (w : World) : Prop :=
  oBI Try.prog Go.Builtin.len #[45] 3 [false] [p1] Kp w fun t7 w =>  -- queue.go:34
  oNil Try.prog p0 Kp w fun t9 w =>  -- queue.go:34
  oFA Try.prog 53 t9 0 Kp w fun t10 w =>  -- queue.go:34
  oCall Try.prog 9 [t10] Kp w fun t11 w =>  -- queue.go:34
  oBI Try.prog Go.Builtin.min #[3, 3] 3 [false, false] [t7, t11] Kp w fun t12 w =>  -- queue.go:34
  oD (ptrish p0) (oNil Try.prog p0 noP w.drew (fun t15 w =>  -- queue.go:35
  oFA Try.prog 53 t15 1 noP w fun t16 w =>  -- queue.go:35
  oLD Try.prog 45 t16 w fun t17 w =>  -- queue.go:35
  oSL Try.prog 45 p1 none (some t12) none noP w fun t20 w =>  -- queue.go:35
  oBI Try.prog Go.Builtin.append #[45, 45] 45 [false, false] [t17, t20] noP w fun t21 w =>  -- queue.go:35
  oD (ptrish p0) (oNil Try.prog p0 noP w (fun t22 w =>  -- queue.go:35
  oFA Try.prog 53 t22 1 noP w fun t23 w =>  -- queue.go:35
  oStore Try.prog 45 t23 t21 noP w fun _t w =>  -- queue.go:35
  oNil Try.prog p0 Kp w fun t25 w =>  -- queue.go:36
  oFA Try.prog 53 t25 0 Kp w fun t26 w =>  -- queue.go:36
  oFA Try.prog 29 t26 0 Kp w fun t27 w =>  -- queue.go:36
  oLoad Try.prog 3 t27 Kp w fun t28 w =>  -- queue.go:36
  oBin Try.prog Go.BinOp.add 3 (Go.Operand.tmp 28) (Go.Operand.tmp 29) t28 t12 Kp w fun t30 w =>  -- queue.go:36
  oNil Try.prog p0 Kp w fun t31 w =>  -- queue.go:36
  oFA Try.prog 53 t31 0 Kp w fun t32 w =>  -- queue.go:36
  oFA Try.prog 29 t32 0 Kp w fun t33 w =>  -- queue.go:36
  oStore Try.prog 3 t33 t30 Kp w fun _t w =>  -- queue.go:36
  R t12 w))))
def a_queue_Queue_string_Put : Ann := ⟨[], [], [], []⟩
theorem e_queue_Queue_string_Put (R : VK) (Kp : PK) (p0 p1 : Value) (w : World) : W Try.prog a_queue_Queue_string_Put Kp (bodyOf Try.f17) (retQ Try.prog Try.f17.results.toList R) (env0 [p0, p1]) w = n_queue_Queue_string_Put R Kp p0 p1 w := by kernel_rfl
theorem c_queue_Queue_string_Put {R : VK} {Kp : PK} {p0 p1 : Value} {w : World} (h : n_queue_Queue_string_Put R Kp p0 p1 w) : Calls Try.prog 17 #[p0, p1] w (callR R Kp) :=
  calls_of_N (an := a_queue_Queue_string_Put) (args := [p0, p1]) mixed Try.func17 (by kernel_rfl) (by kernel_rfl) (by kernel_rfl) (e_queue_Queue_string_Put R Kp p0 p1 w) h

/-- (*trommel/queue.Queue[trommel/trommellaw21.item]).Put -/
def n_queue_Queue_trommellaw21_item_Put (R : VK) (Kp : PK) (p0 p1 : Value) (w : World) : Prop :=
  oBI Try.prog Go.Builtin.len #[46] 3 [false] [p1] Kp w fun t7 w =>  -- queue.go:34
  oNil Try.prog p0 Kp w fun t9 w =>  -- queue.go:34
  oFA Try.prog 55 t9 0 Kp w fun t10 w =>  -- queue.go:34
  oCall Try.prog 9 [t10] Kp w fun t11 w =>  -- queue.go:34
  oBI Try.prog Go.Builtin.min #[3, 3] 3 [false, false] [t7, t11] Kp w fun t12 w =>  -- queue.go:34
  oD (ptrish p0) (oNil Try.prog p0 noP w.drew (fun t15 w =>  -- queue.go:35
  oFA Try.prog 55 t15 1 noP w fun t16 w =>  -- queue.go:35
  oLD Try.prog 46 t16 w fun t17 w =>  -- queue.go:35
  oSL Try.prog 46 p1 none (some t12) none noP w fun t20 w =>  -- queue.go:35
  oBI Try.prog Go.Builtin.append #[46, 46] 46 [false, false] [t17, t20] noP w fun t21 w =>  -- queue.go:35
  oD (ptrish p0) (oNil Try.prog p0 noP w (fun t22 w =>  -- queue.go:35
  oFA Try.prog 55 t22 1 noP w fun t23 w =>  -- queue.go:35
  oStore Try.prog 46 t23 t21 noP w fun _t w =>  -- queue.go:35
  oNil Try.prog p0 Kp w fun t25 w =>  -- queue.go:36
  oFA Try.prog 55 t25 0 Kp w fun t26 w =>  -- queue.go:36
  oFA Try.prog 29 t26 0 Kp w fun t27 w =>  -- queue.go:36
  oLoad Try.prog 3 t27 Kp w fun t28 w =>  -- queue.go:36
  oBin Try.prog Go.BinOp.add 3 (Go.Operand.tmp 28) (Go.Operand.tmp 29) t28 t12 Kp w fun t30 w =>  -- queue.go:36
  oNil Try.prog p0 Kp w fun t31 w =>  -- queue.go:36
  oFA Try.prog 55 t31 0 Kp w fun t32 w =>  -- queue.go:36
  oFA Try.prog 29 t32 0 Kp w fun t33 w =>  -- queue.go:36
  oStore Try.prog 3 t33 t30 Kp w fun _t w =>  -- queue.go:36
  R t12 w))))
def a_queue_Queue_trommellaw21_item_Put : Ann := ⟨[], [], [], []⟩
theorem e_queue_Queue_trommellaw21_item_Put (R : VK) (Kp : PK) (p0 p1 : Value) (w : World) : W Try.prog a_queue_Queue_trommellaw21_item_Put Kp (bodyOf Try.f18) (retQ Try.prog Try.f18.results.toList R) (env0 [p0, p1]) w = n_queue_Queue_trommellaw21_item_Put R Kp p0 p1 w := by kernel_rfl
theorem c_queue_Queue_trommellaw21_item_Put {R : VK} {Kp : PK} {p0 p1 : Value} {w : World} (h : n_queue_Queue_trommellaw21_item_Put R Kp p0 p1 w) : Calls Try.prog 18 #[p0, p1] w (callR R Kp) :=
  calls_of_N (an := a_queue_Queue_trommellaw21_item_Put) (args := [p0, p1]) mixed Try.func18 (by kernel_rfl) (by kernel_rfl) (by kernel_rfl) (e_queue_Queue_trommellaw21_item_Put R Kp p0 p1 w) h

/-- (*trommel/queue.Queue[string]).Take -/
def n_queue_Queue_string_Take (R : VK) (Kp : PK) (p0 p1 : Value) (w : World) : Prop :=
  oBI Try.prog Go.Builtin.max #[3, 3] 3 [false, true] [p1, (Go.Value.int Go.IntKind.i64 0)] Kp w fun t7 w =>  -- queue.go:42
  oNil Try.prog p0 Kp w fun t9 w =>  -- queue.go:42
  oFA Try.prog 53 t9 0 Kp w fun t10 w =>  -- queue.go:42
  oFA Try.prog 29 t10 0 Kp w fun t11 w =>  -- queue.go:42
  oLoad Try.prog 3 t11 Kp w fun t12 w =>  -- queue.go:42
  oBI Try.prog Go.Builtin.min #[3, 3] 3 [false, false] [t7, t12] Kp w fun t13 w =>  -- queue.go:42
  oNil Try.prog p0 Kp w fun t15 w =>  -- queue.go:43
  oFA Try.prog 53 t15 1 Kp w fun t16 w =>  -- queue.go:43
  oLoad Try.prog 45 t16 Kp w fun t17 w =>  -- queue.go:43
  oSL Try.prog 45 t17 none (some t13) none Kp w fun t19 w =>  -- queue.go:43
  oCall Try.prog 34 [t19] Kp w fun t20 w =>  -- queue.go:43
  oNil Try.prog p0 Kp w fun t23 w =>  -- queue.go:44
  oFA Try.prog 53 t23 1 Kp w fun t24 w =>  -- queue.go:44
  oLoad Try.prog 45 t24 Kp w fun t25 w =>  -- queue.go:44
  oSL Try.prog 45 t25 (some t13) none none Kp w fun t27 w =>  -- queue.go:44
  oCall Try.prog 34 [t27] Kp w fun t28 w =>  -- queue.go:44
  oNil Try.prog p0 Kp w fun t29 w =>  -- queue.go:44
  oFA Try.prog 53 t29 1 Kp w fun t30 w =>  -- queue.go:44
  oStore Try.prog 45 t30 t28 Kp w fun _t w =>  -- queue.go:44
  oNil Try.prog p0 Kp w fun t32 w =>  -- queue.go:45
  oFA Try.prog 53 t32 0 Kp w fun t33 w =>  -- queue.go:45
  oFA Try.prog 29 t33 0 Kp w fun t34 w =>  -- queue.go:45
  oLoad Try.prog 3 t34 Kp w fun t35 w =>  -- queue.go:45
  oBin Try.prog Go.BinOp.sub 3 (Go.Operand.tmp 35) (Go.Operand.tmp 36) t35 t13 Kp w fun t37 w =>  -- queue.go:45
  oNil Try.prog p0 Kp w fun t38 w =>  -- queue.go:45
  oFA Try.prog 53 t38 0 Kp w fun t39 w =>  -- queue.go:45
  oFA Try.prog 29 t39 0 Kp w fun t40 w =>  -- queue.go:45
  oStore Try.prog 3 t40 t37 Kp w fun _t w =>  -- queue.go:45
  R t20 w
def a_queue_Queue_string_Take : Ann := ⟨[], [], [], []⟩
theorem e_queue_Queue_string_Take (R : VK) (Kp : PK) (p0 p1 : Value) (w : World) : W Try.prog a_queue_Queue_string_Take Kp (bodyOf Try.f19) (retQ Try.prog Try.f19.results.toList R) (env0 [p0, p1]) w = n_queue_Queue_string_Take R Kp p0 p1 w := by kernel_rfl
theorem c_queue_Queue_string_Take {R : VK} {Kp : PK} {p0 p1 : Value} {w : World} (h : n_queue_Queue_string_Take R Kp p0 p1 w) : Calls Try.prog 19 #[p0, p1] w (callR R Kp) :=
  calls_of_N (an := a_queue_Queue_string_Take) (args := [p0, p1]) mixed Try.func19 (by kernel_rfl) (by kernel_rfl) (by kernel_rfl) (e_queue_Queue_string_Take R Kp p0 p1 w) h

/-- (*trommel/queue.Queue[trommel/trommellaw21.item]).Take -/
def n_queue_Queue_trommellaw21_item_Take (R : VK) (Kp : PK) (p0 p1 : Value) (w : World) : Prop :=
  oBI Try.prog Go.Builtin.max #[3, 3] 3 [false, true] [p1, (Go.Value.int Go.IntKind.i64 0)] Kp w fun t7 w =>  -- queue.go:42
  oNil Try.prog p0 Kp w fun t9 w =>  -- queue.go:42
  oFA Try.prog 55 t9 0 Kp w fun t10 w =>  -- queue.go:42
  oFA Try.prog 29 t10 0 Kp w fun t11 w =>  -- queue.go:42
  oLoad Try.prog 3 t11 Kp w fun t12 w =>  -- queue.go:42
  oBI Try.prog Go.Builtin.min #[3, 3] 3 [false, false] [t7, t12] Kp w fun t13 w =>  -- queue.go:42
  oNil Try.prog p0 Kp w fun t15 w =>  -- queue.go:43
  oFA Try.prog 55 t15 1 Kp w fun t16 w =>  -- queue.go:43
  oLoad Try.prog 46 t16 Kp w fun t17 w =>  -- queue.go:43
  oSL Try.prog 46 t17 none (some t13) none Kp w fun t19 w =>  -- queue.go:43
  oCall Try.prog 35 [t19] Kp w fun t20 w =>  -- queue.go:43
  oNil Try.prog p0 Kp w fun t23 w =>  -- queue.go:44
  oFA Try.prog 55 t23 1 Kp w fun t24 w =>  -- queue.go:44
  oLoad Try.prog 46 t24 Kp w fun t25 w =>  -- queue.go:44
  oSL Try.prog 46 t25 (some t13) none none Kp w fun t27 w =>  -- queue.go:44
  oCall Try.prog 35 [t27] Kp w fun t28 w =>  -- queue.go:44
  oNil Try.prog p0 Kp w fun t29 w =>  -- queue.go:44
  oFA Try.prog 55 t29 1 Kp w fun t30 w =>  -- queue.go:44
  oStore Try.prog 46 t30 t28 Kp w fun _t w =>  -- queue.go:44
  oNil Try.prog p0 Kp w fun t32 w =>  -- queue.go:45
  oFA Try.prog 55 t32 0 Kp w fun t33 w =>  -- queue.go:45
  oFA Try.prog 29 t33 0 Kp w fun t34 w =>  -- queue.go:45
  oLoad Try.prog 3 t34 Kp w fun t35 w =>  -- queue.go:45
  oBin Try.prog Go.BinOp.sub 3 (Go.Operand.tmp 35) (Go.Operand.tmp 36) t35 t13 Kp w fun t37 w =>  -- queue.go:45
  oNil Try.prog p0 Kp w fun t38 w =>  -- queue.go:45
  oFA Try.prog 55 t38 0 Kp w fun t39 w =>  -- queue.go:45
  oFA Try.prog 29 t39 0 Kp w fun t40 w =>  -- queue.go:45
  oStore Try.prog 3 t40 t37 Kp w fun _t w =>  -- queue.go:45
  R t20 w
def a_queue_Queue_trommellaw21_item_Take : Ann := ⟨[], [], [], []⟩
theorem e_queue_Queue_trommellaw21_item_Take (R : VK) (Kp : PK) (p0 p1 : Value) (w : World) : W Try.prog a_queue_Queue_trommellaw21_item_Take Kp (bodyOf Try.f20) (retQ Try.prog Try.f20.results.toList R) (env0 [p0, p1]) w = n_queue_Queue_trommellaw21_item_Take R Kp p0 p1 w := by kernel_rfl
theorem c_queue_Queue_trommellaw21_item_Take {R : VK} {Kp : PK} {p0 p1 : Value} {w : World} (h : n_queue_Queue_trommellaw21_item_Take R Kp p0 p1 w) : Calls Try.prog 20 #[p0, p1] w (callR R Kp) :=
  calls_of_N (an := a_queue_Queue_trommellaw21_item_Take) (args := [p0, p1]) mixed Try.func20 (by kernel_rfl) (by kernel_rfl) (by kernel_rfl) (e_queue_Queue_trommellaw21_item_Take R Kp p0 p1 w) h

/-- trommel/trommelref21.New -/
def n_trommelref21_New (R : VK) (Kp : PK) (p0 : Value) (w : World) : Prop :=
  oBI Try.prog Go.Builtin.max #[3, 3] 3 [false, true] [p0, (Go.Value.int Go.IntKind.i64 1)] Kp w fun t4 w =>  -- ref.go:13
  oBI Try.prog Go.Builtin.min #[3, 3] 3 [false, true] [t4, (Go.Value.int Go.IntKind.i64 16)] Kp w fun t5 w =>  -- ref.go:13
  oBuild Try.prog 83 [(1, t5)] Kp w fun t6 w =>  -- ref.go:13
  oBox Try.prog 83 t6 Kp w fun t7 w =>  -- ref.go:13
  R t7 w
def a_trommelref21_New : Ann := ⟨[], [], [], []⟩
theorem e_trommelref21_New (R : VK) (Kp : PK) (p0 : Value) (w : World) : W Try.prog a_trommelref21_New Kp (bodyOf Try.f21) (retQ Try.prog Try.f21.results.toList R) (env0 [p0]) w = n_trommelref21_New R Kp p0 w := by kernel_rfl
theorem c_trommelref21_New {R : VK} {Kp : PK} {p0 : Value} {w : World} (h : n_trommelref21_New R Kp p0 w) : Calls Try.prog 21 #[p0] w (callR R Kp) :=
  calls_of_N (an := a_trommelref21_New) (args := [p0]) mixed Try.func21 (by kernel_rfl) (by kernel_rfl) (by kernel_rfl) (e_trommelref21_New R Kp p0 w) h

/-- trommel/trommelmem.Ints -/
def n_trommelmem_Ints (R : VK) (Kp : PK) (p0 : Value) (w : World) : Prop :=
  oBI Try.prog Go.Builtin.len #[23] 3 [false] [p0] Kp w fun t5 w =>  -- mem.go:8
  oBin Try.prog Go.BinOp.add 3 (Go.Operand.tmp 5) (Go.Operand.const (Go.Value.int Go.IntKind.i64 2)) t5 (Go.Value.int Go.IntKind.i64 2) Kp w fun t6 w =>  -- mem.go:8
  oMS Try.prog 23 (Go.Value.int Go.IntKind.i64 0) t6 Kp w fun t7 w =>  -- mem.go:8
  oBI Try.prog Go.Builtin.append #[23, 23] 23 [false, false] [t7, p0] Kp w fun t9 w =>  -- mem.go:8
  oBuildS Try.prog 23 2 [(0, (Go.Value.int Go.IntKind.i64 (-77))), (1, (Go.Value.int Go.IntKind.i64 (-78)))] Kp w fun t10 w =>  -- mem.go:8
  oBI Try.prog Go.Builtin.append #[23, 23] 23 [false, false] [t9, t10] Kp w fun t11 w =>  -- mem.go:8
  oBI Try.prog Go.Builtin.len #[23] 3 [false] [p0] Kp w fun t14 w =>  -- mem.go:9
  oSL Try.prog 23 t11 none (some t14) none Kp w fun t15 w =>  -- mem.go:9
  R t15 w
def a_trommelmem_Ints : Ann := ⟨[], [], [], []⟩
theorem e_trommelmem_Ints (R : VK) (Kp : PK) (p0 : Value) (w : World) : W Try.prog a_trommelmem_Ints Kp (bodyOf Try.f22) (retQ Try.prog Try.f22.results.toList R) (env0 [p0]) w = n_trommelmem_Ints R Kp p0 w := by kernel_rfl
theorem c_trommelmem_Ints {R : VK} {Kp : PK} {p0 : Value} {w : World} (h : n_trommelmem_Ints R Kp p0 w) : Calls Try.prog 22 #[p0] w (callR R Kp) :=
  calls_of_N (an := a_trommelmem_Ints) (args := [p0]) mixed Try.func22 (by kernel_rfl) (by kernel_rfl) (by kernel_rfl) (e_trommelmem_Ints R Kp p0 w) h

/-- (*trommel/trommelref21.Queue).Put -/
def n_trommelref21_Queue_Put (R : VK) (Kp : PK) (p0 p1 : Value) (w : World) : Prop :=
  oD (lenOk [p1]) (oBI Try.prog Go.Builtin.len #[23] 3 [false] [p1] noP w.drew (fun t7 w =>  -- ref.go:17
  oD (ptrish p0) (oNil Try.prog p0 noP w (fun t9 w =>  -- ref.go:17
  oFA Try.prog 83 t9 1 noP w fun t10 w =>  -- ref.go:17
  oLD Try.prog 3 t10 w fun t11 w =>  -- ref.go:17
  oD (ptrish p0) (oNil Try.prog p0 noP w (fun t13 w =>  -- ref.go:17
  oFA Try.prog 83 t13 0 noP w fun t14 w =>  -- ref.go:17
  oLD Try.prog 23 t14 w fun t15 w =>  -- ref.go:17
  oD (lenOk [t15]) (oBI Try.prog Go.Builtin.len #[23] 3 [false] [t15] noP w (fun t16 w =>  -- ref.go:17
  oD (twin t11 t16) (oBin Try.prog Go.BinOp.sub 3 (Go.Operand.tmp 11) (Go.Operand.tmp 16) t11 t16 noP w (fun t17 w =>  -- ref.go:17
  oD (intsOk [t7, t17]) (oBI Try.prog Go.Builtin.min #[3, 3] 3 [false, false] [t7, t17] noP w (fun t18 w =>  -- ref.go:17
  ∃ S1 : World → Prop, S1 w.drew ∧
  oBuildS Try.prog 23 0 [] noP w.drew fun t20 w => S1 w ∧  -- ref.go:18
  oD (ptrish p0) (oNil Try.prog p0 noP w (fun t22 w =>  -- ref.go:18
  oFA Try.prog 83 t22 0 noP w fun t23 w =>  -- ref.go:18
  oHL Try.prog S1 23 t23 w fun t24 w =>  -- ref.go:18
  oBI Try.prog Go.Builtin.append #[23, 23] 23 [false, false] [t20, t24] noP w fun t25 w =>  -- ref.go:18
  oSL Try.prog 23 p1 none (some t18) none noP w fun t28 w =>  -- ref.go:18
  oBI Try.prog Go.Builtin.append #[23, 23] 23 [false, false] [t25, t28] noP w fun t29 w =>  -- ref.go:18
  oD (ptrish p0) (oNil Try.prog p0 noP w (fun t30 w =>  -- ref.go:18
  oFA Try.prog 83 t30 0 noP w fun t31 w =>  -- ref.go:18
  oStore Try.prog 23 t31 t29 noP w fun _t w =>  -- ref.go:18
  R t18 w))))))))))))))))
def a_trommelref21_Queue_Put : Ann := ⟨[], [], [], []⟩
theorem e_trommelref21_Queue_Put (R : VK) (Kp : PK) (p0 p1 : Value) (w : World) : W Try.prog a_trommelref21_Queue_Put Kp (bodyOf Try.f23) (retQ Try.prog Try.f23.results.toList R) (env0 [p0, p1]) w = n_trommelref21_Queue_Put R Kp p0 p1 w := by kernel_rfl
theorem c_trommelref21_Queue_Put {R : VK} {Kp : PK} {p0 p1 : Value} {w : World} (h : n_trommelref21_Queue_Put R Kp p0 p1 w) : Calls Try.prog 23 #[p0, p1] w (callR R Kp) :=
  calls_of_N (an := a_trommelref21_Queue_Put) (args := [p0, p1]) mixed Try.func23 (by kernel_rfl) (by kernel_rfl) (by kernel_rfl) (e_trommelref21_Queue_Put R Kp p0 p1 w) h

/-- (*trommel/trommelref21.Queue).Take -/
def n_trommelref21_Queue_Take (R : VK) (Kp : PK) (p0 p1 : Value) (w : World) : Prop :=
  oBI Try.prog Go.Builtin.max #[3, 3] 3 [false, true] [p1, (Go.Value.int Go.IntKind.i64 0)] Kp w fun t8 w =>  -- ref.go:24
  oNil Try.prog p0 Kp w fun t10 w =>  -- ref.go:24
  oFA Try.prog 83 t10 0 Kp w fun t11 w =>  -- ref.go:24
  oLoad Try.prog 23 t11 Kp w fun t12 w =>  -- ref.go:24
  oBI Try.prog Go.Builtin.len #[23] 3 [false] [t12] Kp w fun t13 w =>  -- ref.go:24
  oBI Try.prog Go.Builtin.min #[3, 3] 3 [false, false] [t8, t13] Kp w fun t14 w =>  -- ref.go:24
  oNil Try.prog p0 Kp w fun t16 w =>  -- ref.go:25
  oFA Try.prog 83 t16 0 Kp w fun t17 w =>  -- ref.go:25
  oLoad Try.prog 23 t17 Kp w fun t18 w =>  -- ref.go:25
  oSL Try.prog 23 t18 none (some t14) none Kp w fun t20 w =>  -- ref.go:25
  oNil Try.prog p0 Kp w fun t23 w =>  -- ref.go:26
  oFA Try.prog 83 t23 0 Kp w fun t24 w =>  -- ref.go:26
  oLoad Try.prog 23 t24 Kp w fun t25 w =>  -- ref.go:26
  oSL Try.prog 23 t25 (some t14) none none Kp w fun t27 w =>  -- ref.go:26
  oNil Try.prog p0 Kp w fun t28 w =>  -- ref.go:26
  oFA Try.prog 83 t28 0 Kp w fun t29 w =>  -- ref.go:26
  oStore Try.prog 23 t29 t27 Kp w fun _t w =>  -- ref.go:26
  R t20 w
def a_trommelref21_Queue_Take : Ann := ⟨[], [], [], []⟩
theorem e_trommelref21_Queue_Take (R : VK) (Kp : PK) (p0 p1 : Value) (w : World) : W Try.prog a_trommelref21_Queue_Take Kp (bodyOf Try.f24) (retQ Try.prog Try.f24.results.toList R) (env0 [p0, p1]) w = n_trommelref21_Queue_Take R Kp p0 p1 w := by kernel_rfl
theorem c_trommelref21_Queue_Take {R : VK} {Kp : PK} {p0 p1 : Value} {w : World} (h : n_trommelref21_Queue_Take R Kp p0 p1 w) : Calls Try.prog 24 #[p0, p1] w (callR R Kp) :=
  calls_of_N (an := a_trommelref21_Queue_Take) (args := [p0, p1]) mixed Try.func24 (by kernel_rfl) (by kernel_rfl) (by kernel_rfl) (e_trommelref21_Queue_Take R Kp p0 p1 w) h

/-- trommel/trommelmem.OverInts -/
def n_trommelmem_OverInts (R : VK) (Kp : PK) (p0 : Value) (w : World) : Prop :=
  oBI Try.prog Go.Builtin.len #[23] 3 [false] [p0] Kp w fun t5 w =>  -- mem.go:137
  nLoop [6] [(Go.Value.int Go.IntKind.i64 0)] w (fun f1 ag1 w =>  -- 6=
   oBin Try.prog Go.BinOp.lss 3 (Go.Operand.tmp 6) (Go.Operand.tmp 5) (f1 6) t5 Kp w fun t7 w =>  -- mem.go:137
   oCond t7 (
    oBin Try.prog Go.BinOp.sub 3 (Go.Operand.const (Go.Value.int Go.IntKind.i64 (-1000))) (Go.Operand.tmp 11) (Go.Value.int Go.IntKind.i64 (-1000)) (f1 6) Kp w fun t12 w =>  -- mem.go:138
    oIA Try.prog 23 p0 (f1 6) Kp w fun t13 w =>  -- mem.go:138
    oStore Try.prog 3 t13 t12 Kp w fun _t w =>  -- mem.go:138
    oBin Try.prog Go.BinOp.add 3 (Go.Operand.tmp 6) (Go.Operand.const (Go.Value.int Go.IntKind.i64 1)) (f1 6) (Go.Value.int Go.IntKind.i64 1) Kp w fun t14 w =>  -- mem.go:137
    ag1 [t14] w) (
    oBuildS Try.prog 23 2 [(0, (Go.Value.int Go.IntKind.i64 (-5))), (1, (Go.Value.int Go.IntKind.i64 (-6)))] Kp w fun t16 w =>  -- mem.go:140
    oBI Try.prog Go.Builtin.append #[23, 23] 23 [false, false] [p0, t16] Kp w fun t17 w =>  -- mem.go:140
    oBI Try.prog Go.Builtin.len #[23] 3 [false] [p0] Kp w fun t20 w =>  -- mem.go:141
    oIA Try.prog 23 t17 t20 Kp w fun t21 w =>  -- mem.go:141
    oStore Try.prog 3 t21 (Go.Value.int Go.IntKind.i64 (-7)) Kp w fun _t w =>  -- mem.go:141
    R (Go.Value.tuple #[]) w))
def a_trommelmem_OverInts : Ann := ⟨[(1, [6], 32708)], [], [], []⟩
theorem e_trommelmem_OverInts (R : VK) (Kp : PK) (p0 : Value) (w : World) : W Try.prog a_trommelmem_OverInts Kp (bodyOf Try.f25) (retQ Try.prog Try.f25.results.toList R) (env0 [p0]) w = n_trommelmem_OverInts R Kp p0 w := by kernel_rfl
theorem c_trommelmem_OverInts {R : VK} {Kp : PK} {p0 : Value} {w : World} (h : n_trommelmem_OverInts R Kp p0 w) : Calls Try.prog 25 #[p0] w (callR R Kp) :=
  calls_of_N (an := a_trommelmem_OverInts) (args := [p0]) mixed Try.func25 (by kernel_rfl) (by kernel_rfl) (by kernel_rfl) (e_trommelmem_OverInts R Kp p0 w) h

/-- trommel/queue.Heads[int] -/
def n_queue_Heads_int (R : VK) (Kp : PK) (p0 : Value) (w : World) : Prop :=
  oBI Try.prog Go.Builtin.len #[64] 3 [false] [p0] Kp w fun t13 w =>  -- queue.go:63
  nLoop [14] [(Go.Value.int Go.IntKind.i64 0)] w (fun f1 ag1 w =>  -- 14=
   oBin Try.prog Go.BinOp.lss 3 (Go.Operand.tmp 14) (Go.Operand.tmp 13) (f1 14) t13 Kp w fun t15 w =>  -- queue.go:63
   oCond t15 (
    oIA Try.prog 64 p0 (f1 14) Kp w fun t16 w =>  -- queue.go:63
    oLoad Try.prog 25 t16 Kp w fun t17 w =>  -- queue.go:63
    oBI Try.prog Go.Builtin.len #[64] 3 [false] [p0] Kp w fun t19 w =>  -- queue.go:65
    nLoop [6, 20] [(Go.Value.int Go.IntKind.i64 0), (Go.Value.int Go.IntKind.i64 0)] w (fun f2 ag2 w =>  -- 6=need, 20=
     oBin Try.prog Go.BinOp.lss 3 (Go.Operand.tmp 20) (Go.Operand.tmp 19) (f2 20) t19 Kp w fun t21 w =>  -- queue.go:65
     oCond t21 (
      oIA Try.prog 64 p0 (f2 20) Kp w fun t22 w =>  -- queue.go:65
      oLoad Try.prog 25 t22 Kp w fun t23 w =>  -- queue.go:65
      oBin Try.prog Go.BinOp.eql 25 (Go.Operand.tmp 24) (Go.Operand.tmp 25) t23 t17 Kp w fun t26 w =>  -- queue.go:66
      oCond t26 (
       oBin Try.prog Go.BinOp.add 3 (Go.Operand.tmp 27) (Go.Operand.const (Go.Value.int Go.IntKind.i64 1)) (f2 6) (Go.Value.int Go.IntKind.i64 1) Kp w fun t28 w =>  -- queue.go:67
       oBin Try.prog Go.BinOp.add 3 (Go.Operand.tmp 20) (Go.Operand.const (Go.Value.int Go.IntKind.i64 1)) (f2 20) (Go.Value.int Go.IntKind.i64 1) Kp w fun t29 w =>  -- queue.go:65
       ag2 [t28, t29] w) (
       oBin Try.prog Go.BinOp.add 3 (Go.Operand.tmp 20) (Go.Operand.const (Go.Value.int Go.IntKind.i64 1)) (f2 20) (Go.Value.int Go.IntKind.i64 1) Kp w fun t29 w =>  -- queue.go:65
       ag2 [(f2 6), t29] w)) (
      oNil Try.prog t17 Kp w fun t31 w =>  -- queue.go:70
      oFA Try.prog 31 t31 0 Kp w fun t32 w =>  -- queue.go:70
      oCall Try.prog 12 [t32] Kp w fun t33 w =>  -- queue.go:70
      oBin Try.prog Go.BinOp.lss 3 (Go.Operand.tmp 33) (Go.Operand.tmp 34) t33 (f2 6) Kp w fun t35 w =>  -- queue.go:70
      oCond t35 (
       R (Go.Value.tuple #[(Go.Value.slice Option.none 0 0), (Go.Value.bool Bool.false)]) w) (
       oBin Try.prog Go.BinOp.add 3 (Go.Operand.tmp 14) (Go.Operand.const (Go.Value.int Go.IntKind.i64 1)) (f1 14) (Go.Value.int Go.IntKind.i64 1) Kp w fun t36 w =>  -- queue.go:63
       ag1 [t36] w)))) (
    oBI Try.prog Go.Builtin.len #[64] 3 [false] [p0] Kp w fun t38 w =>  -- queue.go:75
    nLoop [9, 39] [(Go.Value.slice Option.none 0 0), (Go.Value.int Go.IntKind.i64 0)] w (fun f3 ag3 w =>  -- 9=out, 39=
     oBin Try.prog Go.BinOp.lss 3 (Go.Operand.tmp 39) (Go.Operand.tmp 38) (f3 39) t38 Kp w fun t40 w =>  -- queue.go:75
     oCond t40 (
      oIA Try.prog 64 p0 (f3 39) Kp w fun t41 w =>  -- queue.go:75
      oLoad Try.prog 25 t41 Kp w fun t42 w =>  -- queue.go:75
      oCall Try.prog 11 [t42, (Go.Value.int Go.IntKind.i64 1)] Kp w fun t45 w =>  -- queue.go:76
      oBI Try.prog Go.Builtin.append #[23, 23] 23 [false, false] [(f3 9), t45] Kp w fun t46 w =>  -- queue.go:76
      oBin Try.prog Go.BinOp.add 3 (Go.Operand.tmp 39) (Go.Operand.const (Go.Value.int Go.IntKind.i64 1)) (f3 39) (Go.Value.int Go.IntKind.i64 1) Kp w fun t47 w =>  -- queue.go:75
      ag3 [t46, t47] w) (
      R (Go.Value.tuple #[(f3 9), (Go.Value.bool Bool.true)]) w))))
def a_queue_Heads_int : Ann := ⟨[(2, [14], 137438937452), (6, [6, 20], 1072693568), (16, [9, 39], 280925220899328)], [], [], []⟩
theorem e_queue_Heads_int (R : VK) (Kp : PK) (p0 : Value) (w : World) : W Try.prog a_queue_Heads_int Kp (bodyOf Try.f26) (retQ Try.prog Try.f26.results.toList R) (env0 [p0]) w = n_queue_Heads_int R Kp p0 w := by kernel_rfl
theorem c_queue_Heads_int {R : VK} {Kp : PK} {p0 : Value} {w : World} (h : n_queue_Heads_int R Kp p0 w) : Calls Try.prog 26 #[p0] w (callR R Kp) :=
  calls_of_N (an := a_queue_Heads_int) (args := [p0]) mixed Try.func26 (by kernel_rfl) (by kernel_rfl) (by kernel_rfl) (e_queue_Heads_int R Kp p0 w) h

/-- trommel/trommelref21.Heads -/
def n_trommelref21_Heads (R : VK) (Kp : PK) (p0 : Value) (w : World) : Prop :=
  nLoop [4] [(Go.Value.int Go.IntKind.i64 0)] w (fun f1 ag1 w =>  -- 4=i
   oBI Try.prog Go.Builtin.len #[65] 3 [false] [p0] Kp w fun t11 w =>  -- ref.go:32
   oBin Try.prog Go.BinOp.lss 3 (Go.Operand.tmp 9) (Go.Operand.tmp 11) (f1 4) t11 Kp w fun t12 w =>  -- ref.go:32
   oCond t12 (
    nLoop [5, 6] [(Go.Value.int Go.IntKind.i64 0), (Go.Value.int Go.IntKind.i64 0)] w (fun f2 ag2 w =>  -- 5=need, 6=k
     oBI Try.prog Go.Builtin.len #[65] 3 [false] [p0] Kp w fun t17 w =>  -- ref.go:34
     oBin Try.prog Go.BinOp.lss 3 (Go.Operand.tmp 15) (Go.Operand.tmp 17) (f2 6) t17 Kp w fun t18 w =>  -- ref.go:34
     oCond t18 (
      nCut [5] (fun M3 =>
       oS (fun K => K p0 w.drew) w.drew fun t21 w =>  -- ref.go:35
       oS (fun K => K (f2 6) w) w fun t22 w =>  -- ref.go:35
       oS (fun K => oIA Try.prog 65 t21 t22 noP w K) w fun t23 w =>  -- ref.go:35
       oS (fun K => oLoad Try.prog 58 t23 noP w K) w fun t24 w =>  -- ref.go:35
       oS (fun K => K p0 w) w fun t25 w =>  -- ref.go:35
       oS (fun K => K (f1 4) w) w fun t26 w =>  -- ref.go:35
       oS (fun K => oIA Try.prog 65 t25 t26 noP w K) w fun t27 w =>  -- ref.go:35
       oS (fun K => oLoad Try.prog 58 t27 noP w K) w fun t28 w =>  -- ref.go:35
       oS (fun K => oBin Try.prog Go.BinOp.eql 58 (Go.Operand.tmp 24) (Go.Operand.tmp 28) t24 t28 noP w K) w fun t29 w =>  -- ref.go:35
       oCond t29 (
        oBin Try.prog Go.BinOp.add 3 (Go.Operand.tmp 30) (Go.Operand.const (Go.Value.int Go.IntKind.i64 1)) (f2 5) (Go.Value.int Go.IntKind.i64 1) Kp w fun t31 w =>  -- ref.go:36
        M3 [t31] w) (
        M3 [(f2 5)] w))
      (fun g3 w =>
       oBin Try.prog Go.BinOp.add 3 (Go.Operand.tmp 19) (Go.Operand.const (Go.Value.int Go.IntKind.i64 1)) (f2 6) (Go.Value.int Go.IntKind.i64 1) Kp w fun t20 w =>  -- ref.go:34
       ag2 [(g3 5), t20] w)) (
      oIA Try.prog 65 p0 (f1 4) Kp w fun t34 w =>  -- ref.go:39
      oLoad Try.prog 58 t34 Kp w fun t35 w =>  -- ref.go:39
      oNil Try.prog t35 Kp w fun t36 w =>  -- ref.go:39
      oFA Try.prog 83 t36 0 Kp w fun t37 w =>  -- ref.go:39
      oLoad Try.prog 23 t37 Kp w fun t38 w =>  -- ref.go:39
      oBI Try.prog Go.Builtin.len #[23] 3 [false] [t38] Kp w fun t39 w =>  -- ref.go:39
      oBin Try.prog Go.BinOp.lss 3 (Go.Operand.tmp 39) (Go.Operand.tmp 40) t39 (f2 5) Kp w fun t41 w =>  -- ref.go:39
      oCond t41 (
       R (Go.Value.tuple #[(Go.Value.slice Option.none 0 0), (Go.Value.bool Bool.false)]) w) (
       oBin Try.prog Go.BinOp.add 3 (Go.Operand.tmp 13) (Go.Operand.const (Go.Value.int Go.IntKind.i64 1)) (f1 4) (Go.Value.int Go.IntKind.i64 1) Kp w fun t14 w =>  -- ref.go:32
       ag1 [t14] w)))) (
    nLoop [7, 8] [(Go.Value.slice Option.none 0 0), (Go.Value.int Go.IntKind.i64 0)] w (fun f4 ag4 w =>  -- 7=out, 8=i
     oBI Try.prog Go.Builtin.len #[65] 3 [false] [p0] Kp w fun t44 w =>  -- ref.go:44
     oBin Try.prog Go.BinOp.lss 3 (Go.Operand.tmp 42) (Go.Operand.tmp 44) (f4 8) t44 Kp w fun t45 w =>  -- ref.go:44
     oCond t45 (
      oIA Try.prog 65 p0 (f4 8) Kp w fun t51 w =>  -- ref.go:45
      oLoad Try.prog 58 t51 Kp w fun t52 w =>  -- ref.go:45
      oCall Try.prog 24 [t52, (Go.Value.int Go.IntKind.i64 1)] Kp w fun t53 w =>  -- ref.go:45
      oBI Try.prog Go.Builtin.append #[23, 23] 23 [false, false] [(f4 7), t53] Kp w fun t54 w =>  -- ref.go:45
      oBin Try.prog Go.BinOp.add 3 (Go.Operand.tmp 46) (Go.Operand.const (Go.Value.int Go.IntKind.i64 1)) (f4 8) (Go.Value.int Go.IntKind.i64 1) Kp w fun t47 w =>  -- ref.go:44
      ag4 [t54, t47] w) (
      R (Go.Value.tuple #[(f4 7), (Go.Value.bool Bool.true)]) w))))
def a_trommelref21_Heads : Ann := ⟨[(2, [4], 4398046510716), (6, [5, 6], 4294934624), (14, [7, 8], 36024398972453248)], [(7, [5], 4292870176)], [], [8]⟩
theorem e_trommelref21_Heads (R : VK) (Kp : PK) (p0 : Value) (w : World) : W Try.prog a_trommelref21_Heads Kp (bodyOf Try.f27) (retQ Try.prog Try.f27.results.toList R) (env0 [p0]) w = n_trommelref21_Heads R Kp p0 w := by kernel_rfl
theorem c_trommelref21_Heads {R : VK} {Kp : PK} {p0 : Value} {w : World} (h : n_trommelref21_Heads R Kp p0 w) : Calls Try.prog 27 #[p0] w (callR R Kp) :=
  calls_of_N (an := a_trommelref21_Heads) (args := [p0]) mixed Try.func27 (by kernel_rfl) (by kernel_rfl) (by kernel_rfl) (e_trommelref21_Heads R Kp p0 w) h

/-- trommel/trommelmem.KeptInts -/
def n_trommelmem_KeptInts (R : VK) (Kp : PK) (p0 p1 : Value) (w : World) : Prop :=
  oBI Try.prog Go.Builtin.len #[23] 3 [false] [p0] Kp w fun t8 w =>  -- mem.go:24
  oBin Try.prog Go.BinOp.add 3 (Go.Operand.tmp 8) (Go.Operand.const (Go.Value.int Go.IntKind.i64 2)) t8 (Go.Value.int Go.IntKind.i64 2) Kp w fun t9 w =>  -- mem.go:24
  oSL Try.prog 23 p0 none (some t9) none Kp w fun t10 w =>  -- mem.go:24
  oBI Try.prog Go.Builtin.len #[23] 3 [false] [p0] Kp w fun t12 w =>  -- mem.go:25
  oBI Try.prog Go.Builtin.len #[23] 3 [false] [p1] Kp w fun t14 w =>  -- mem.go:25
  oBin Try.prog Go.BinOp.neq 3 (Go.Operand.tmp 12) (Go.Operand.tmp 14) t12 t14 Kp w fun t15 w =>  -- mem.go:25
  oG (isB t15 false) (fun K => K t10 w) (fun t17 w =>  -- mem.go:25
  oG (isB t15 false) (fun K => K p0 w) (fun t18 w =>  -- mem.go:25
  oG (isB t15 false) (fun K => oBI Try.prog Go.Builtin.len #[23] 3 [false] [t18] Kp w K) (fun t19 w =>  -- mem.go:25
  oG (isB t15 false) (fun K => oIA Try.prog 23 t17 t19 Kp w K) (fun t20 w =>  -- mem.go:25
  oG (isB t15 false) (fun K => oLoad Try.prog 3 t20 Kp w K) (fun t21 w =>  -- mem.go:25
  oG (isB t15 false) (fun K => oBin Try.prog Go.BinOp.neq 3 (Go.Operand.tmp 21) (Go.Operand.const (Go.Value.int Go.IntKind.i64 (-77))) t21 (Go.Value.int Go.IntKind.i64 (-77)) Kp w K) (fun t22 w =>  -- mem.go:25
  oPick Try.prog t15 (Go.Value.bool Bool.true) t22 Kp w fun t23 w =>  -- mem.go:25
  oG (isB t23 false) (fun K => K t10 w) (fun t25 w =>  -- mem.go:25
  oG (isB t23 false) (fun K => K p0 w) (fun t26 w =>  -- mem.go:25
  oG (isB t23 false) (fun K => oBI Try.prog Go.Builtin.len #[23] 3 [false] [t26] Kp w K) (fun t27 w =>  -- mem.go:25
  oG (isB t23 false) (fun K => oBin Try.prog Go.BinOp.add 3 (Go.Operand.tmp 27) (Go.Operand.const (Go.Value.int Go.IntKind.i64 1)) t27 (Go.Value.int Go.IntKind.i64 1) Kp w K) (fun t28 w =>  -- mem.go:25
  oG (isB t23 false) (fun K => oIA Try.prog 23 t25 t28 Kp w K) (fun t29 w =>  -- mem.go:25
  oG (isB t23 false) (fun K => oLoad Try.prog 3 t29 Kp w K) (fun t30 w =>  -- mem.go:25
  oG (isB t23 false) (fun K => oBin Try.prog Go.BinOp.neq 3 (Go.Operand.tmp 30) (Go.Operand.const (Go.Value.int Go.IntKind.i64 (-78))) t30 (Go.Value.int Go.IntKind.i64 (-78)) Kp w K) (fun t31 w =>  -- mem.go:25
  oPick Try.prog t23 (Go.Value.bool Bool.true) t31 Kp w fun t32 w =>  -- mem.go:25
  oCond t32 (
   R (Go.Value.bool Bool.false) w) (
   oCall Try.prog 13 [p0, p1] Kp w fun t35 w =>  -- mem.go:28
   R t35 w)) w) w) w) w) w) w) w) w) w) w) w) w) w
def a_trommelmem_KeptInts : Ann := ⟨[], [], [], []⟩
theorem e_trommelmem_KeptInts (R : VK) (Kp : PK) (p0 p1 : Value) (w : World) : W Try.prog a_trommelmem_KeptInts Kp (bodyOf Try.f28) (retQ Try.prog Try.f28.results.toList R) (env0 [p0, p1]) w = n_trommelmem_KeptInts R Kp p0 p1 w := by kernel_rfl
theorem c_trommelmem_KeptInts {R : VK} {Kp : PK} {p0 p1 : Value} {w : World} (h : n_trommelmem_KeptInts R Kp p0 p1 w) : Calls Try.prog 28 #[p0, p1] w (callR R Kp) :=
  calls_of_N (an := a_trommelmem_KeptInts) (args := [p0, p1]) mixed Try.func28 (by kernel_rfl) (by kernel_rfl) (by kernel_rfl) (e_trommelmem_KeptInts R Kp p0 p1 w) h

/-- trommel/trommellaw21.same -/
def n_trommellaw21_same (R : VK) (Kp : PK) (p0 p1 : Value) (w : World) : Prop :=
  oCall Try.prog 30 [p0] Kp w fun t11 w =>  -- law.go:39
  oCall Try.prog 30 [p0] Kp w fun t13 w =>  -- law.go:39
  oCall Try.prog 25 [t11] Kp w fun t15 w =>  -- law.go:40
  oCall Try.prog 31 [p0] Kp w fun t18 w =>  -- law.go:41
  oEX Try.prog t18 0 Kp w fun t19 w =>  -- law.go:41
  oEX Try.prog t18 1 Kp w fun t20 w =>  -- law.go:41
  nCut [9] (fun M1 =>
   oNil Try.prog p1 Kp w fun t22 w =>  -- law.go:43
   oFA Try.prog 83 t22 0 Kp w fun t23 w =>  -- law.go:43
   oLoad Try.prog 23 t23 Kp w fun t24 w =>  -- law.go:43
   oBI Try.prog Go.Builtin.len #[23] 3 [false] [t24] Kp w fun t25 w =>  -- law.go:43
   oBin Try.prog Go.BinOp.gtr 3 (Go.Operand.tmp 25) (Go.Operand.const (Go.Value.int Go.IntKind.i64 0)) t25 (Go.Value.int Go.IntKind.i64 0) Kp w fun t26 w =>  -- law.go:43
   oCond t26 (
    oNil Try.prog p1 Kp w fun t28 w =>  -- law.go:44
    oFA Try.prog 83 t28 0 Kp w fun t29 w =>  -- law.go:44
    oLoad Try.prog 23 t29 Kp w fun t30 w =>  -- law.go:44
    oIA Try.prog 23 t30 (Go.Value.int Go.IntKind.i64 0) Kp w fun t31 w =>  -- law.go:44
    oLoad Try.prog 3 t31 Kp w fun t32 w =>  -- law.go:44
    M1 [t32] w) (
    M1 [(Go.Value.int Go.IntKind.i64 0)] w))
  (fun g1 w =>
   ∃ S2 : World → Prop, S2 w.drew ∧
   oD (ptrish p1) (oNil Try.prog p1 noP w.drew (fun t35 w =>  -- law.go:46
   oFA Try.prog 83 t35 0 noP w fun t36 w =>  -- law.go:46
   oHL Try.prog S2 23 t36 w fun t37 w =>  -- law.go:46
   oCall Try.prog 13 [t13, t37] noP w fun t38 w => S2 w ∧  -- law.go:46
   oG (isB t38 true) (fun K => K p0 w) (fun t40 w =>  -- law.go:46
   oG (isB t38 true) (fun K => oD (ptrish t40) (oNil Try.prog t40 noP w K)) (fun t41 w =>  -- law.go:46
   oG (isB t38 true) (fun K => oFA Try.prog 31 t41 0 noP w K) (fun t42 w =>  -- law.go:46
   oG (isB t38 true) (fun K => oCall Try.prog 12 [t42] noP w (fun v w => S2 w ∧ K v w)) (fun t43 w =>  -- law.go:46
   oG (isB t38 true) (fun K => K p1 w) (fun t44 w =>  -- law.go:46
   oG (isB t38 true) (fun K => oD (ptrish t44) (oNil Try.prog t44 noP w K)) (fun t45 w =>  -- law.go:46
   oG (isB t38 true) (fun K => oFA Try.prog 83 t45 0 noP w K) (fun t46 w =>  -- law.go:46
   oG (isB t38 true) (fun K => oHL Try.prog S2 23 t46 w K) (fun t47 w =>  -- law.go:46
   oG (isB t38 true) (fun K => oD (lenOk [t47]) (oBI Try.prog Go.Builtin.len #[23] 3 [false] [t47] noP w K)) (fun t48 w =>  -- law.go:46
   oG (isB t38 true) (fun K => oD (twin t43 t48) (oBin Try.prog Go.BinOp.eql 3 (Go.Operand.tmp 43) (Go.Operand.tmp 48) t43 t48 noP w K)) (fun t49 w =>  -- law.go:46
   oPick Try.prog t38 t49 (Go.Value.bool Bool.false) noP w fun t50 w =>  -- law.go:46
   oG (isB t50 true) (fun K => K p0 w) (fun t52 w =>  -- law.go:46
   oG (isB t50 true) (fun K => oD (ptrish t52) (oNil Try.prog t52 noP w K)) (fun t53 w =>  -- law.go:46
   oG (isB t50 true) (fun K => oFA Try.prog 31 t53 0 noP w K) (fun t54 w =>  -- law.go:46
   oG (isB t50 true) (fun K => oCall Try.prog 9 [t54] noP w (fun v w => S2 w ∧ K v w)) (fun t55 w =>  -- law.go:46
   oG (isB t50 true) (fun K => K p1 w) (fun t56 w =>  -- law.go:46
   oG (isB t50 true) (fun K => oD (ptrish t56) (oNil Try.prog t56 noP w K)) (fun t57 w =>  -- law.go:46
   oG (isB t50 true) (fun K => oFA Try.prog 83 t57 1 noP w K) (fun t58 w =>  -- law.go:46
   oG (isB t50 true) (fun K => oHL Try.prog S2 3 t58 w K) (fun t59 w =>  -- law.go:46
   oG (isB t50 true) (fun K => K p1 w) (fun t60 w =>  -- law.go:46
   oG (isB t50 true) (fun K => oD (ptrish t60) (oNil Try.prog t60 noP w K)) (fun t61 w =>  -- law.go:46
   oG (isB t50 true) (fun K => oFA Try.prog 83 t61 0 noP w K) (fun t62 w =>  -- law.go:46
   oG (isB t50 true) (fun K => oHL Try.prog S2 23 t62 w K) (fun t63 w =>  -- law.go:46
   oG (isB t50 true) (fun K => oD (lenOk [t63]) (oBI Try.prog Go.Builtin.len #[23] 3 [false] [t63] noP w K)) (fun t64 w =>  -- law.go:46
   oG (isB t50 true) (fun K => oD (twin t59 t64) (oBin Try.prog Go.BinOp.sub 3 (Go.Operand.tmp 59) (Go.Operand.tmp 64) t59 t64 noP w K)) (fun t65 w =>  -- law.go:46
   oG (isB t50 true) (fun K => oD (twin t55 t65) (oBin Try.prog Go.BinOp.eql 3 (Go.Operand.tmp 55) (Go.Operand.tmp 65) t55 t65 noP w K)) (fun t66 w =>  -- law.go:46
   oPick Try.prog t50 t66 (Go.Value.bool Bool.false) noP w fun t67 w =>  -- law.go:46
   oG (isB t67 true) (fun K => K t19 w) (fun t69 w =>  -- law.go:46
   oG (isB t67 true) (fun K => K (g1 9) w) (fun t70 w =>  -- law.go:46
   oG (isB t67 true) (fun K => oD (twin t69 t70) (oBin Try.prog Go.BinOp.eql 3 (Go.Operand.tmp 69) (Go.Operand.tmp 70) t69 t70 noP w K)) (fun t71 w =>  -- law.go:46
   oPick Try.prog t67 t71 (Go.Value.bool Bool.false) noP w fun t72 w =>  -- law.go:46
   oG (isB t72 true) (fun K => K t20 w) (fun t74 w =>  -- law.go:46
   oG (isB t72 true) (fun K => K p1 w) (fun t75 w =>  -- law.go:46
   oG (isB t72 true) (fun K => oD (ptrish t75) (oNil Try.prog t75 noP w K)) (fun t76 w =>  -- law.go:46
   oG (isB t72 true) (fun K => oFA Try.prog 83 t76 0 noP w K) (fun t77 w =>  -- law.go:46
   oG (isB t72 true) (fun K => oHL Try.prog S2 23 t77 w K) (fun t78 w =>  -- law.go:46
   oG (isB t72 true) (fun K => oD (lenOk [t78]) (oBI Try.prog Go.Builtin.len #[23] 3 [false] [t78] noP w K)) (fun t79 w =>  -- law.go:46
   oG (isB t72 true) (fun K => oD (twin t79 (Go.Value.int Go.IntKind.i64 0)) (oBin Try.prog Go.BinOp.gtr 3 (Go.Operand.tmp 79) (Go.Operand.const (Go.Value.int Go.IntKind.i64 0)) t79 (Go.Value.int Go.IntKind.i64 0) noP w K)) (fun t80 w =>  -- law.go:46
   oG (isB t72 true) (fun K => oD (twin t74 t80) (oBin Try.prog Go.BinOp.eql 4 (Go.Operand.tmp 74) (Go.Operand.tmp 80) t74 t80 noP w K)) (fun t81 w =>  -- law.go:46
   oPick Try.prog t72 t81 (Go.Value.bool Bool.false) noP w fun t82 w =>  -- law.go:46
   R t82 w) w) w) w) w) w) w) w) w) w) w) w) w) w) w) w) w) w) w) w) w) w) w) w) w) w) w) w) w) w) w) w) w) w) w) w) w)))
def a_trommellaw21_same : Ann := ⟨[], [(7, [9], 8587837952)], [], []⟩
theorem e_trommellaw21_same (R : VK) (Kp : PK) (p0 p1 : Value) (w : World) : W Try.prog a_trommellaw21_same Kp (bodyOf Try.f29) (retQ Try.prog Try.f29.results.toList R) (env0 [p0, p1]) w = n_trommellaw21_same R Kp p0 p1 w := by kernel_rfl
theorem c_trommellaw21_same {R : VK} {Kp : PK} {p0 p1 : Value} {w : World} (h : n_trommellaw21_same R Kp p0 p1 w) : Calls Try.prog 29 #[p0, p1] w (callR R Kp) :=
  calls_of_N (an := a_trommellaw21_same) (args := [p0, p1]) mixed Try.func29 (by kernel_rfl) (by kernel_rfl) (by kernel_rfl) (e_trommellaw21_same R Kp p0 p1 w) h

/-- (*trommel/queue.Queue[int]).All -/
def n_queue_Queue_int_All (R : VK) (Kp : PK) (p0 : Value) (w : World) : Prop :=
  oNil Try.prog p0 Kp w fun t4 w =>  -- queue.go:59
  oFA Try.prog 31 t4 1 Kp w fun t5 w =>  -- queue.go:59
  oLoad Try.prog 23 t5 Kp w fun t6 w =>  -- queue.go:59
  oCall Try.prog 33 [t6] Kp w fun t7 w =>  -- queue.go:59
  R t7 w
def a_queue_Queue_int_All : Ann := ⟨[], [], [], []⟩
theorem e_queue_Queue_int_All (R : VK) (Kp : PK) (p0 : Value) (w : World) : W Try.prog a_queue_Queue_int_All Kp (bodyOf Try.f30) (retQ Try.prog Try.f30.results.toList R) (env0 [p0]) w = n_queue_Queue_int_All R Kp p0 w := by kernel_rfl
theorem c_queue_Queue_int_All {R : VK} {Kp : PK} {p0 : Value} {w : World} (h : n_queue_Queue_int_All R Kp p0 w) : Calls Try.prog 30 #[p0] w (callR R Kp) :=
  calls_of_N (an := a_queue_Queue_int_All) (args := [p0]) mixed Try.func30 (by kernel_rfl) (by kernel_rfl) (by kernel_rfl) (e_queue_Queue_int_All R Kp p0 w) h

/-- (*trommel/queue.Queue[int]).Peek -/
def n_queue_Queue_int_Peek (R : VK) (Kp : PK) (p0 : Value) (w : World) : Prop :=
  oNil Try.prog p0 Kp w fun t6 w =>  -- queue.go:51
  oFA Try.prog 31 t6 0 Kp w fun t7 w =>  -- queue.go:51
  oFA Try.prog 29 t7 0 Kp w fun t8 w =>  -- queue.go:51
  oLoad Try.prog 3 t8 Kp w fun t9 w =>  -- queue.go:51
  oBin Try.prog Go.BinOp.eql 3 (Go.Operand.tmp 9) (Go.Operand.const (Go.Value.int Go.IntKind.i64 0)) t9 (Go.Value.int Go.IntKind.i64 0) Kp w fun t10 w =>  -- queue.go:51
  oCond t10 (
   R (Go.Value.tuple #[(Go.Value.int Go.IntKind.i64 0), (Go.Value.bool Bool.false)]) w) (
   oNil Try.prog p0 Kp w fun t13 w =>  -- queue.go:55
   oFA Try.prog 31 t13 1 Kp w fun t14 w =>  -- queue.go:55
   oLoad Try.prog 23 t14 Kp w fun t15 w =>  -- queue.go:55
   oIA Try.prog 23 t15 (Go.Value.int Go.IntKind.i64 0) Kp w fun t16 w =>  -- queue.go:55
   oLoad Try.prog 3 t16 Kp w fun t17 w =>  -- queue.go:55
   R (Go.Value.tuple #[t17, (Go.Value.bool Bool.true)]) w)
def a_queue_Queue_int_Peek : Ann := ⟨[], [], [], []⟩
theorem e_queue_Queue_int_Peek (R : VK) (Kp : PK) (p0 : Value) (w : World) : W Try.prog a_queue_Queue_int_Peek Kp (bodyOf Try.f31) (retQ Try.prog Try.f31.results.toList R) (env0 [p0]) w = n_queue_Queue_int_Peek R Kp p0 w := by kernel_rfl
theorem c_queue_Queue_int_Peek {R : VK} {Kp : PK} {p0 : Value} {w : World} (h : n_queue_Queue_int_Peek R Kp p0 w) : Calls Try.prog 31 #[p0] w (callR R Kp) :=
  calls_of_N (an := a_queue_Queue_int_Peek) (args := [p0]) mixed Try.func31 (by kernel_rfl) (by kernel_rfl) (by kernel_rfl) (e_queue_Queue_int_Peek R Kp p0 w) h

/-- (*trommel/queue.Queue[string]).Peek -/
def n_queue_Queue_string_Peek (R : VK) (Kp : PK) (p0 : Value) (w : World) : Prop :=
  oNil Try.prog p0 Kp w fun t6 w =>  -- queue.go:51
  oFA Try.prog 53 t6 0 Kp w fun t7 w =>  -- queue.go:51
  oFA Try.prog 29 t7 0 Kp w fun t8 w =>  -- queue.go:51
  oLoad Try.prog 3 t8 Kp w fun t9 w =>  -- queue.go:51
  oBin Try.prog Go.BinOp.eql 3 (Go.Operand.tmp 9) (Go.Operand.const (Go.Value.int Go.IntKind.i64 0)) t9 (Go.Value.int Go.IntKind.i64 0) Kp w fun t10 w =>  -- queue.go:51
  oCond t10 (
   R (Go.Value.tuple #[(Go.Value.string (ByteArray.mk #[])), (Go.Value.bool Bool.false)]) w) (
   oNil Try.prog p0 Kp w fun t13 w =>  -- queue.go:55
   oFA Try.prog 53 t13 1 Kp w fun t14 w =>  -- queue.go:55
   oLoad Try.prog 45 t14 Kp w fun t15 w =>  -- queue.go:55
   oIA Try.prog 45 t15 (Go.Value.int Go.IntKind.i64 0) Kp w fun t16 w =>  -- queue.go:55
   oLoad Try.prog 9 t16 Kp w fun t17 w =>  -- queue.go:55
   R (Go.Value.tuple #[t17, (Go.Value.bool Bool.true)]) w)
def a_queue_Queue_string_Peek : Ann := ⟨[], [], [], []⟩
theorem e_queue_Queue_string_Peek (R : VK) (Kp : PK) (p0 : Value) (w : World) : W Try.prog a_queue_Queue_string_Peek Kp (bodyOf Try.f32) (retQ Try.prog Try.f32.results.toList R) (env0 [p0]) w = n_queue_Queue_string_Peek R Kp p0 w := by kernel_rfl
theorem c_queue_Queue_string_Peek {R : VK} {Kp : PK} {p0 : Value} {w : World} (h : n_queue_Queue_string_Peek R Kp p0 w) : Calls Try.prog 32 #[p0] w (callR R Kp) :=
  calls_of_N (an := a_queue_Queue_string_Peek) (args := [p0]) mixed Try.func32 (by kernel_rfl) (by kernel_rfl) (by kernel_rfl) (e_queue_Queue_string_Peek R Kp p0 w) h

/-- slices.Clone[[]int,int] -/
def n_slices_Clone_int_int (R : VK) (Kp : PK) (p0 : Value) (w : World) : Prop :=
  oBin Try.prog Go.BinOp.eql 23 (Go.Operand.tmp 3) (Go.Operand.const (Go.Value.slice Option.none 0 0)) p0 (Go.Value.slice Option.none 0 0) Kp w fun t4 w =>  -- slices.go:357
  oCond t4 (
   R (Go.Value.slice Option.none 0 0) w) (
   oBuildS Try.prog 23 0 [] Kp w fun t5 w =>  -- slices.go:362
   oBI Try.prog Go.Builtin.append #[23, 23] 23 [false, false] [t5, p0] Kp w fun t7 w =>  -- slices.go:362
   R t7 w)
def a_slices_Clone_int_int : Ann := ⟨[], [], [], []⟩
theorem e_slices_Clone_int_int (R : VK) (Kp : PK) (p0 : Value) (w : World) : W Try.prog a_slices_Clone_int_int Kp (bodyOf Try.f33) (retQ Try.prog Try.f33.results.toList R) (env0 [p0]) w = n_slices_Clone_int_int R Kp p0 w := by kernel_rfl
theorem c_slices_Clone_int_int {R : VK} {Kp : PK} {p0 : Value} {w : World} (h : n_slices_Clone_int_int R Kp p0 w) : Calls Try.prog 33 #[p0] w (callR R Kp) :=
  calls_of_N (an := a_slices_Clone_int_int) (args := [p0]) mixed Try.func33 (by kernel_rfl) (by kernel_rfl) (by kernel_rfl) (e_slices_Clone_int_int R Kp p0 w) h

/-- slices.Clone[[]string,string] -/
def n_slices_Clone_string_string (R : VK) (Kp : PK) (p0 : Value) (w : World) : Prop :=
  oBin Try.prog Go.BinOp.eql 45 (Go.Operand.tmp 3) (Go.Operand.const (Go.Value.slice Option.none 0 0)) p0 (Go.Value.slice Option.none 0 0) Kp w fun t4 w =>  -- slices.go:357
  oCond t4 (
   R (Go.Value.slice Option.none 0 0) w) (
   oBuildS Try.prog 45 0 [] Kp w fun t5 w =>  -- slices.go:362
   oBI Try.prog Go.Builtin.append #[45, 45] 45 [false, false] [t5, p0] Kp w fun t7 w =>  -- slices.go:362
   R t7 w)
def a_slices_Clone_string_string : Ann := ⟨[], [], [], []⟩
theorem e_slices_Clone_string_string (R : VK) (Kp : PK) (p0 : Value) (w : World) : W Try.prog a_slices_Clone_string_string Kp (bodyOf Try.f34) (retQ Try.prog Try.f34.results.toList R) (env0 [p0]) w = n_slices_Clone_string_string R Kp p0 w := by kernel_rfl
theorem c_slices_Clone_string_string {R : VK} {Kp : PK} {p0 : Value} {w : World} (h : n_slices_Clone_string_string R Kp p0 w) : Calls Try.prog 34 #[p0] w (callR R Kp) :=
  calls_of_N (an := a_slices_Clone_string_string) (args := [p0]) mixed Try.func34 (by kernel_rfl) (by kernel_rfl) (by kernel_rfl) (e_slices_Clone_string_string R Kp p0 w) h

/-- slices.Clone[[]trommel/trommellaw21.item,trommel/trommellaw21.item] -/
def n_slices_Clone_trommellaw21_item_trommellaw21_item (R : VK) (Kp : PK) (p0 : Value) (w : World) : Prop :=
  oBin Try.prog Go.BinOp.eql 46 (Go.Operand.tmp 3) (Go.Operand.const (Go.Value.slice Option.none 0 0)) p0 (Go.Value.slice Option.none 0 0) Kp w fun t4 w =>  -- slices.go:357
  oCond t4 (
   R (Go.Value.slice Option.none 0 0) w) (
   oBuildS Try.prog 46 0 [] Kp w fun t5 w =>  -- slices.go:362
   oBI Try.prog Go.Builtin.append #[46, 46] 46 [false, false] [t5, p0] Kp w fun t7 w =>  -- slices.go:362
   R t7 w)
def a_slices_Clone_trommellaw21_item_trommellaw21_item : Ann := ⟨[], [], [], []⟩
theorem e_slices_Clone_trommellaw21_item_trommellaw21_item (R : VK) (Kp : PK) (p0 : Value) (w : World) : W Try.prog a_slices_Clone_trommellaw21_item_trommellaw21_item Kp (bodyOf Try.f35) (retQ Try.prog Try.f35.results.toList R) (env0 [p0]) w = n_slices_Clone_trommellaw21_item_trommellaw21_item R Kp p0 w := by kernel_rfl
theorem c_slices_Clone_trommellaw21_item_trommellaw21_item {R : VK} {Kp : PK} {p0 : Value} {w : World} (h : n_slices_Clone_trommellaw21_item_trommellaw21_item R Kp p0 w) : Calls Try.prog 35 #[p0] w (callR R Kp) :=
  calls_of_N (an := a_slices_Clone_trommellaw21_item_trommellaw21_item) (args := [p0]) mixed Try.func35 (by kernel_rfl) (by kernel_rfl) (by kernel_rfl) (e_slices_Clone_trommellaw21_item_trommellaw21_item R Kp p0 w) h

end Go.Proofs.Ytahipnlffgbjgaa
