/- Printed by mill.py (a program of ours): the bodies of Go functions as plain texts over the model's operations, each with its equation. -/
import Derived.Test.YtlbihkgfejgefaaDoorL5
import Derived.Test.YtlbihkgfejgefaaDoorProg
namespace Go.Proofs.YtlbihkgfejgefaaDoor
open Go L
set_option maxRecDepth 100000
set_option linter.unusedVariables false

theorem mixed_N1 : Tryd.prog.follows .mixedOrders = true := by kernel_rfl

/-- trommel/trommellaw04.TreePreds -/
def n_trommellaw04_TreePreds (R : VK) (Kp : PK) (p0 : Value) (w : World) : Prop :=
  oBox Tryd.prog 25 p0 Kp w fun t1 w =>  -- law.go:40
  oCall Tryd.prog 20 [] Kp w fun t4 w =>  -- law.go:41
  oUn Tryd.prog Go.UnOp.not t4 Kp w fun t5 w =>  -- law.go:41
  oCond t5 (
   R (Go.Value.bool Bool.false) w) (
   oLoad Tryd.prog 25 t1 Kp w fun t6 w =>  -- law.go:44
   oCall Tryd.prog 21 [t6] Kp w fun t7 w =>  -- law.go:44
   oAlloc Tryd.prog 25 Kp w fun t3 w =>  -- law.go:44
   oStore Tryd.prog 25 t3 t7 Kp w fun _t w =>  -- law.go:44
   ∃ S1 : World → Prop, S1 w.drew ∧
   oHL Tryd.prog S1 25 t3 w.drew fun t8 w =>  -- law.go:45
   oCall Tryd.prog 22 [t8] noP w fun t9 w => S1 w ∧  -- law.go:45
   oHL Tryd.prog S1 25 t1 w fun t10 w =>  -- law.go:45
   oCall Tryd.prog 24 [t10] noP w fun t11 w => S1 w ∧  -- law.go:45
   oCall Tryd.prog 23 [t11] noP w fun t12 w => S1 w ∧  -- law.go:45
   oD (twin t9 t12) (oBin Tryd.prog Go.BinOp.eql 28 (Go.Operand.tmp 9) (Go.Operand.tmp 12) t9 t12 noP w (fun t13 w =>  -- law.go:45
   oG (isB t13 true) (fun K => oHL Tryd.prog S1 25 t3 w K) (fun t15 w =>  -- law.go:45
   oG (isB t13 true) (fun K => oHL Tryd.prog S1 25 t1 w K) (fun t16 w =>  -- law.go:45
   oG (isB t13 true) (fun K => oCall Tryd.prog 25 [t15, t16] noP w K) (fun t17 w =>  -- law.go:45
   oPick Tryd.prog t13 t17 (Go.Value.bool Bool.false) noP w fun t18 w =>  -- law.go:45
   R t18 w) w) w) w)))
def a_trommellaw04_TreePreds : Ann := ⟨[], [], [], []⟩
theorem e_trommellaw04_TreePreds (R : VK) (Kp : PK) (p0 : Value) (w : World) : W Tryd.prog a_trommellaw04_TreePreds Kp (bodyOf Tryd.f3) (retQ Tryd.prog Tryd.f3.results.toList R) (env0 [p0]) w = n_trommellaw04_TreePreds R Kp p0 w := by kernel_rfl
theorem c_trommellaw04_TreePreds {R : VK} {Kp : PK} {p0 : Value} {w : World} (h : n_trommellaw04_TreePreds R Kp p0 w) : Calls Tryd.prog 3 #[p0] w (callR R Kp) :=
  calls_of_N (an := a_trommellaw04_TreePreds) (args := [p0]) mixed_N1 Tryd.func3 (by kernel_rfl) (by kernel_rfl) (by kernel_rfl) (e_trommellaw04_TreePreds R Kp p0 w) h

/-- trommel/trommellaw04.TreeSame -/
def n_trommellaw04_TreeSame (R : VK) (Kp : PK) (p0 p1 : Value) (w : World) : Prop :=
  oBox Tryd.prog 35 p0 Kp w fun t2 w =>  -- law.go:49
  oBox Tryd.prog 35 p1 Kp w fun t3 w =>  -- law.go:49
  oCall Tryd.prog 20 [] Kp w fun t10 w =>  -- law.go:50
  oUn Tryd.prog Go.UnOp.not t10 Kp w fun t11 w =>  -- law.go:50
  oCond t11 (
   R (Go.Value.bool Bool.false) w) (
   oLoad Tryd.prog 35 t2 Kp w fun t12 w =>  -- law.go:53
   oLoad Tryd.prog 35 t3 Kp w fun t13 w =>  -- law.go:53
   oBuildS Tryd.prog 33 2 [(0, t12), (1, t13)] Kp w fun t14 w =>  -- law.go:53
   oCall Tryd.prog 26 [t14] Kp w fun t15 w =>  -- law.go:53
   oUn Tryd.prog Go.UnOp.not t15 Kp w fun t16 w =>  -- law.go:53
   oCond t16 (
    R (Go.Value.bool Bool.true) w) (
    oLoad Tryd.prog 35 t2 Kp w fun t17 w =>  -- law.go:56
    oLoad Tryd.prog 35 t3 Kp w fun t18 w =>  -- law.go:56
    oCall Tryd.prog 27 [t17, t18] Kp w fun t19 w =>  -- law.go:56
    ∃ S1 : World → Prop, S1 w.drew ∧
    oHL Tryd.prog S1 35 t2 w.drew fun t20 w =>  -- law.go:57
    oHL Tryd.prog S1 35 t3 w fun t21 w =>  -- law.go:57
    oCall Tryd.prog 28 [t20, t21] noP w fun t22 w => S1 w ∧  -- law.go:57
    oD (twin t22 t19) (oBin Tryd.prog Go.BinOp.neq 4 (Go.Operand.tmp 22) (Go.Operand.tmp 23) t22 t19 noP w (fun t24 w =>  -- law.go:57
    oG (isB t24 false) (fun K => oHL Tryd.prog S1 35 t3 w K) (fun t26 w =>  -- law.go:57
    oG (isB t24 false) (fun K => oHL Tryd.prog S1 35 t2 w K) (fun t27 w =>  -- law.go:57
    oG (isB t24 false) (fun K => oCall Tryd.prog 28 [t26, t27] noP w (fun v w => S1 w ∧ K v w)) (fun t28 w =>  -- law.go:57
    oG (isB t24 false) (fun K => K t19 w) (fun t29 w =>  -- law.go:57
    oG (isB t24 false) (fun K => oD (twin t28 t29) (oBin Tryd.prog Go.BinOp.neq 4 (Go.Operand.tmp 28) (Go.Operand.tmp 29) t28 t29 noP w K)) (fun t30 w =>  -- law.go:57
    oPick Tryd.prog t24 (Go.Value.bool Bool.true) t30 noP w fun t31 w =>  -- law.go:57
    oG (isB t31 false) (fun K => oHL Tryd.prog S1 35 t2 w K) (fun t33 w =>  -- law.go:57
    oG (isB t31 false) (fun K => oHL Tryd.prog S1 35 t2 w K) (fun t34 w =>  -- law.go:57
    oG (isB t31 false) (fun K => oCall Tryd.prog 29 [t34] noP w (fun v w => S1 w ∧ K v w)) (fun t35 w =>  -- law.go:57
    oG (isB t31 false) (fun K => oCall Tryd.prog 28 [t33, t35] noP w K) (fun t36 w =>  -- law.go:57
    oG (isB t31 false) (fun K => oUn Tryd.prog Go.UnOp.not t36 noP w K) (fun t37 w =>  -- law.go:57
    oPick Tryd.prog t31 (Go.Value.bool Bool.true) t37 noP w fun t38 w =>  -- law.go:57
    oCond t38 (
     R (Go.Value.bool Bool.false) w) (
     oLoad Tryd.prog 35 t2 Kp w fun t40 w =>  -- law.go:60
     oCall Tryd.prog 30 [t40] Kp w fun t41 w =>  -- law.go:60
     oEX Tryd.prog t41 0 Kp w fun t42 w =>  -- law.go:60
     oEX Tryd.prog t41 1 Kp w fun t43 w =>  -- law.go:60
     oLoad Tryd.prog 35 t3 Kp w fun t45 w =>  -- law.go:61
     oCall Tryd.prog 30 [t45] Kp w fun t46 w =>  -- law.go:61
     oEX Tryd.prog t46 0 Kp w fun t47 w =>  -- law.go:61
     oEX Tryd.prog t46 1 Kp w fun t48 w =>  -- law.go:61
     oBin Tryd.prog Go.BinOp.neq 28 (Go.Operand.tmp 49) (Go.Operand.const (Go.Value.int Go.IntKind.i64 0)) t43 (Go.Value.int Go.IntKind.i64 0) Kp w fun t50 w =>  -- law.go:62
     oG (isB t50 false) (fun K => K t48 w) (fun t52 w =>  -- law.go:62
     oG (isB t50 false) (fun K => oBin Tryd.prog Go.BinOp.neq 28 (Go.Operand.tmp 52) (Go.Operand.const (Go.Value.int Go.IntKind.i64 0)) t52 (Go.Value.int Go.IntKind.i64 0) Kp w K) (fun t53 w =>  -- law.go:62
     oPick Tryd.prog t50 (Go.Value.bool Bool.true) t53 Kp w fun t54 w =>  -- law.go:62
     oG (isB t54 false) (fun K => K t42 w) (fun t56 w =>  -- law.go:62
     oG (isB t54 false) (fun K => K t47 w) (fun t57 w =>  -- law.go:62
     oG (isB t54 false) (fun K => oBin Tryd.prog Go.BinOp.eql 9 (Go.Operand.tmp 56) (Go.Operand.tmp 57) t56 t57 Kp w K) (fun t58 w =>  -- law.go:62
     oG (isB t54 false) (fun K => K t19 w) (fun t59 w =>  -- law.go:62
     oG (isB t54 false) (fun K => oBin Tryd.prog Go.BinOp.eql 4 (Go.Operand.tmp 58) (Go.Operand.tmp 59) t58 t59 Kp w K) (fun t60 w =>  -- law.go:62
     oPick Tryd.prog t54 (Go.Value.bool Bool.true) t60 Kp w fun t61 w =>  -- law.go:62
     R t61 w) w) w) w) w) w) w) w)) w) w) w) w) w) w) w) w) w) w))))
def a_trommellaw04_TreeSame : Ann := ⟨[], [], [], []⟩
theorem e_trommellaw04_TreeSame (R : VK) (Kp : PK) (p0 p1 : Value) (w : World) : W Tryd.prog a_trommellaw04_TreeSame Kp (bodyOf Tryd.f4) (retQ Tryd.prog Tryd.f4.results.toList R) (env0 [p0, p1]) w = n_trommellaw04_TreeSame R Kp p0 p1 w := by kernel_rfl
theorem c_trommellaw04_TreeSame {R : VK} {Kp : PK} {p0 p1 : Value} {w : World} (h : n_trommellaw04_TreeSame R Kp p0 p1 w) : Calls Tryd.prog 4 #[p0, p1] w (callR R Kp) :=
  calls_of_N (an := a_trommellaw04_TreeSame) (args := [p0, p1]) mixed_N1 Tryd.func4 (by kernel_rfl) (by kernel_rfl) (by kernel_rfl) (e_trommellaw04_TreeSame R Kp p0 p1 w) h

/-- trommel/trommellaw04.TreeLeaves -/
def n_trommellaw04_TreeLeaves (R : VK) (Kp : PK) (p0 p1 p2 p3 p4 : Value) (w : World) : Prop :=
  oCall Tryd.prog 20 [] Kp w fun t25 w =>  -- law.go:67
  oUn Tryd.prog Go.UnOp.not t25 Kp w fun t26 w =>  -- law.go:67
  oCond t26 (
   R (Go.Value.bool Bool.false) w) (
   oCall Tryd.prog 31 [p1] Kp w fun t28 w =>  -- law.go:70
   oCall Tryd.prog 32 [p2] Kp w fun t30 w =>  -- law.go:70
   nCut [13] (fun M1 =>
    oBI Tryd.prog Go.Builtin.len #[23] 3 [false] [p2] Kp w fun t32 w =>  -- law.go:72
    oBin Tryd.prog Go.BinOp.gtr 3 (Go.Operand.tmp 32) (Go.Operand.const (Go.Value.int Go.IntKind.i64 0)) t32 (Go.Value.int Go.IntKind.i64 0) Kp w fun t33 w =>  -- law.go:72
    oCond t33 (
     oIA Tryd.prog 23 p2 (Go.Value.int Go.IntKind.i64 0) Kp w fun t35 w =>  -- law.go:73
     oLoad Tryd.prog 9 t35 Kp w fun t36 w =>  -- law.go:73
     M1 [t36] w) (
     M1 [(Go.Value.string (ByteArray.mk #[]))] w))
   (fun g1 w =>
    oCall Tryd.prog 33 [p0, t28] Kp w fun t39 w =>  -- law.go:75
    oCall Tryd.prog 34 [p0, t30] Kp w fun t42 w =>  -- law.go:75
    oCall Tryd.prog 35 [p0, p3, p4] Kp w fun t46 w =>  -- law.go:75
    oCall Tryd.prog 36 [p0, (g1 13)] Kp w fun t49 w =>  -- law.go:75
    oAlloc Tryd.prog 35 Kp w fun t14 w =>  -- law.go:75
    oAlloc Tryd.prog 35 Kp w fun t15 w =>  -- law.go:75
    oAlloc Tryd.prog 35 Kp w fun t16 w =>  -- law.go:75
    oAlloc Tryd.prog 35 Kp w fun t17 w =>  -- law.go:75
    oStore Tryd.prog 35 t14 t39 Kp w fun _t w =>  -- law.go:75
    oStore Tryd.prog 35 t15 t42 Kp w fun _t w =>  -- law.go:75
    oStore Tryd.prog 35 t16 t46 Kp w fun _t w =>  -- law.go:75
    oStore Tryd.prog 35 t17 t49 Kp w fun _t w =>  -- law.go:75
    oBuild Tryd.prog 25 [(0, (Go.Value.int Go.IntKind.i64 1)), (1, p0), (2, p1)] Kp w fun t52 w =>  -- law.go:76
    oAlloc Tryd.prog 25 Kp w fun t18 w =>  -- law.go:76
    oStore Tryd.prog 25 t18 t52 Kp w fun _t w =>  -- law.go:76
    oBuild Tryd.prog 25 [(0, (Go.Value.int Go.IntKind.i64 2)), (1, p0), (3, p2)] Kp w fun t55 w =>  -- law.go:77
    oAlloc Tryd.prog 25 Kp w fun t19 w =>  -- law.go:77
    oStore Tryd.prog 25 t19 t55 Kp w fun _t w =>  -- law.go:77
    oBuild Tryd.prog 25 [(0, (Go.Value.int Go.IntKind.i64 3)), (1, p0), (4, p3), (5, p4)] Kp w fun t59 w =>  -- law.go:78
    oAlloc Tryd.prog 25 Kp w fun t20 w =>  -- law.go:78
    oStore Tryd.prog 25 t20 t59 Kp w fun _t w =>  -- law.go:78
    oBuildS Tryd.prog 23 1 [(0, (g1 13))] Kp w fun t62 w =>  -- law.go:79
    oBuild Tryd.prog 25 [(0, (Go.Value.int Go.IntKind.i64 4)), (1, p0), (3, t62)] Kp w fun t63 w =>  -- law.go:79
    oAlloc Tryd.prog 25 Kp w fun t21 w =>  -- law.go:79
    oStore Tryd.prog 25 t21 t63 Kp w fun _t w =>  -- law.go:79
    oCall Tryd.prog 37 [t28] Kp w fun t65 w =>  -- law.go:80
    oCall Tryd.prog 38 [t30] Kp w fun t67 w =>  -- law.go:81
    oLoad Tryd.prog 35 t14 Kp w fun t68 w =>  -- law.go:82
    oLoad Tryd.prog 35 t15 Kp w fun t69 w =>  -- law.go:82
    oLoad Tryd.prog 35 t16 Kp w fun t70 w =>  -- law.go:82
    oLoad Tryd.prog 35 t17 Kp w fun t71 w =>  -- law.go:82
    oBuildS Tryd.prog 33 4 [(0, t68), (1, t69), (2, t70), (3, t71)] Kp w fun t72 w =>  -- law.go:82
    oBI Tryd.prog Go.Builtin.len #[33] 3 [false] [t72] Kp w fun t73 w =>  -- law.go:82
    nLoop [74] [(Go.Value.int Go.IntKind.i64 0)] w (fun f2 ag2 w =>  -- 74=
     oBin Tryd.prog Go.BinOp.lss 3 (Go.Operand.tmp 74) (Go.Operand.tmp 73) (f2 74) t73 Kp w fun t75 w =>  -- law.go:82
     oCond t75 (
      oIA Tryd.prog 33 t72 (f2 74) Kp w fun t77 w =>  -- law.go:82
      oLoad Tryd.prog 35 t77 Kp w fun t78 w =>  -- law.go:82
      oAlloc Tryd.prog 35 Kp w fun t23 w =>  -- law.go:82
      oStore Tryd.prog 35 t23 t78 Kp w fun _t w =>  -- law.go:82
      oLoad Tryd.prog 25 t18 Kp w fun t79 w =>  -- law.go:83
      oLoad Tryd.prog 25 t19 Kp w fun t80 w =>  -- law.go:83
      oLoad Tryd.prog 25 t20 Kp w fun t81 w =>  -- law.go:83
      oLoad Tryd.prog 25 t21 Kp w fun t82 w =>  -- law.go:83
      oBuildS Tryd.prog 49 4 [(0, t79), (1, t80), (2, t81), (3, t82)] Kp w fun t83 w =>  -- law.go:83
      oIA Tryd.prog 49 t83 (f2 74) Kp w fun t85 w =>  -- law.go:83
      oLoad Tryd.prog 25 t85 Kp w fun t86 w =>  -- law.go:83
      oAlloc Tryd.prog 25 Kp w fun t24 w =>  -- law.go:83
      oStore Tryd.prog 25 t24 t86 Kp w fun _t w =>  -- law.go:83
      ∃ S3 : World → Prop, S3 w.drew ∧
      oHL Tryd.prog S3 35 t23 w.drew fun t87 w =>  -- law.go:84
      oHL Tryd.prog S3 25 t24 w fun t88 w =>  -- law.go:84
      oBuild Tryd.prog 35 [(0, t88), (1, (Go.Value.int Go.IntKind.i64 1))] noP w fun t89 w =>  -- law.go:84
      oCall Tryd.prog 27 [t87, t89] noP w fun t90 w => S3 w ∧  -- law.go:84
      oUn Tryd.prog Go.UnOp.not t90 noP w fun t91 w => S3 w ∧  -- law.go:84
      oG (isB t91 false) (fun K => oHL Tryd.prog S3 35 t23 w K) (fun t93 w =>  -- law.go:84
      oG (isB t91 false) (fun K => oCall Tryd.prog 39 [t93] noP w (fun v w => S3 w ∧ K v w)) (fun t94 w =>  -- law.go:84
      oG (isB t91 false) (fun K => oHL Tryd.prog S3 25 t24 w K) (fun t95 w =>  -- law.go:84
      oG (isB t91 false) (fun K => oCall Tryd.prog 22 [t95] noP w K) (fun t96 w =>  -- law.go:84
      oG (isB t91 false) (fun K => oD (twin t94 t96) (oBin Tryd.prog Go.BinOp.neq 28 (Go.Operand.tmp 94) (Go.Operand.tmp 96) t94 t96 noP w K)) (fun t97 w =>  -- law.go:84
      oPick Tryd.prog t91 (Go.Value.bool Bool.true) t97 noP w fun t98 w =>  -- law.go:84
      oCond t98 (
       R (Go.Value.bool Bool.false) w) (
       oBin Tryd.prog Go.BinOp.add 3 (Go.Operand.tmp 74) (Go.Operand.const (Go.Value.int Go.IntKind.i64 1)) (f2 74) (Go.Value.int Go.IntKind.i64 1) Kp w fun t99 w =>  -- law.go:82
       ag2 [t99] w)) w) w) w) w) w) (
      R (Go.Value.bool Bool.true) w))))
def a_trommellaw04_TreeLeaves : Ann := ⟨[(15, [74], 1267650581338763470018151711744)], [(7, [13], 135291478016)], [], []⟩
theorem e_trommellaw04_TreeLeaves (R : VK) (Kp : PK) (p0 p1 p2 p3 p4 : Value) (w : World) : W Tryd.prog a_trommellaw04_TreeLeaves Kp (bodyOf Tryd.f5) (retQ Tryd.prog Tryd.f5.results.toList R) (env0 [p0, p1, p2, p3, p4]) w = n_trommellaw04_TreeLeaves R Kp p0 p1 p2 p3 p4 w := by kernel_rfl
theorem c_trommellaw04_TreeLeaves {R : VK} {Kp : PK} {p0 p1 p2 p3 p4 : Value} {w : World} (h : n_trommellaw04_TreeLeaves R Kp p0 p1 p2 p3 p4 w) : Calls Tryd.prog 5 #[p0, p1, p2, p3, p4] w (callR R Kp) :=
  calls_of_N (an := a_trommellaw04_TreeLeaves) (args := [p0, p1, p2, p3, p4]) mixed_N1 Tryd.func5 (by kernel_rfl) (by kernel_rfl) (by kernel_rfl) (e_trommellaw04_TreeLeaves R Kp p0 p1 p2 p3 p4 w) h

/-- trommel/trommellaw04.TreeBuilds -/
def n_trommellaw04_TreeBuilds (R : VK) (Kp : PK) (p0 : Value) (w : World) : Prop :=
  oCall Tryd.prog 20 [] Kp w fun t12 w =>  -- law.go:93
  oUn Tryd.prog Go.UnOp.not t12 Kp w fun t13 w =>  -- law.go:93
  oCond t13 (
   R (Go.Value.bool Bool.false) w) (
   oCall Tryd.prog 26 [p0] Kp w fun t15 w =>  -- law.go:96
   oUn Tryd.prog Go.UnOp.not t15 Kp w fun t16 w =>  -- law.go:96
   oCond t16 (
    R (Go.Value.bool Bool.true) w) (
    oBI Tryd.prog Go.Builtin.len #[33] 3 [false] [p0] Kp w fun t18 w =>  -- law.go:101
    nLoop [3, 4, 19] [(Go.Value.slice Option.none 0 0), (Go.Value.bool Bool.true), (Go.Value.int Go.IntKind.i64 0)] w (fun f1 ag1 w =>  -- 3=mine, 4=all, 19=
     oBin Tryd.prog Go.BinOp.lss 3 (Go.Operand.tmp 19) (Go.Operand.tmp 18) (f1 19) t18 Kp w fun t20 w =>  -- law.go:101
     oCond t20 (
      oIA Tryd.prog 33 p0 (f1 19) Kp w fun t21 w =>  -- law.go:101
      oLoad Tryd.prog 35 t21 Kp w fun t22 w =>  -- law.go:101
      oAlloc Tryd.prog 35 Kp w fun t6 w =>  -- law.go:101
      oStore Tryd.prog 35 t6 t22 Kp w fun _t w =>  -- law.go:101
      oLoad Tryd.prog 35 t6 Kp w fun t24 w =>  -- law.go:102
      oCall Tryd.prog 29 [t24] Kp w fun t25 w =>  -- law.go:102
      oBuildS Tryd.prog 33 1 [(0, t25)] Kp w fun t26 w =>  -- law.go:102
      oBI Tryd.prog Go.Builtin.append #[33, 33] 33 [false, false] [(f1 3), t26] Kp w fun t27 w =>  -- law.go:102
      oG (isB (f1 4) true) (fun K => oLoad Tryd.prog 35 t6 Kp w K) (fun t30 w =>  -- law.go:103
      oG (isB (f1 4) true) (fun K => oCall Tryd.prog 39 [t30] Kp w K) (fun t31 w =>  -- law.go:103
      oG (isB (f1 4) true) (fun K => oBin Tryd.prog Go.BinOp.eql 28 (Go.Operand.tmp 31) (Go.Operand.const (Go.Value.int Go.IntKind.i64 0)) t31 (Go.Value.int Go.IntKind.i64 0) Kp w K) (fun t32 w =>  -- law.go:103
      oPick Tryd.prog (f1 4) t32 (Go.Value.bool Bool.false) Kp w fun t33 w =>  -- law.go:103
      oBin Tryd.prog Go.BinOp.add 3 (Go.Operand.tmp 19) (Go.Operand.const (Go.Value.int Go.IntKind.i64 1)) (f1 19) (Go.Value.int Go.IntKind.i64 1) Kp w fun t34 w =>  -- law.go:101
      ag1 [t27, t33, t34] w) w) w) w) (
      oCall Tryd.prog 40 [(f1 3)] Kp w fun t36 w =>  -- law.go:105
      oCall Tryd.prog 41 [(f1 3)] Kp w fun t38 w =>  -- law.go:105
      oAlloc Tryd.prog 35 Kp w fun t7 w =>  -- law.go:105
      oAlloc Tryd.prog 35 Kp w fun t8 w =>  -- law.go:105
      oStore Tryd.prog 35 t7 t36 Kp w fun _t w =>  -- law.go:105
      oStore Tryd.prog 35 t8 t38 Kp w fun _t w =>  -- law.go:105
      oBI Tryd.prog Go.Builtin.len #[33] 3 [false] [p0] Kp w fun t40 w =>  -- law.go:106
      nLoop [41] [(Go.Value.int Go.IntKind.i64 0)] w (fun f2 ag2 w =>  -- 41=
       oBin Tryd.prog Go.BinOp.lss 3 (Go.Operand.tmp 41) (Go.Operand.tmp 40) (f2 41) t40 Kp w fun t42 w =>  -- law.go:106
       oCond t42 (
        oIA Tryd.prog 33 p0 (f2 41) Kp w fun t44 w =>  -- law.go:106
        oLoad Tryd.prog 35 t44 Kp w fun t45 w =>  -- law.go:106
        oAlloc Tryd.prog 35 Kp w fun t10 w =>  -- law.go:106
        oStore Tryd.prog 35 t10 t45 Kp w fun _t w =>  -- law.go:106
        oIA Tryd.prog 33 (f1 3) (f2 41) Kp w fun t48 w =>  -- law.go:107
        oLoad Tryd.prog 35 t48 Kp w fun t49 w =>  -- law.go:107
        oCall Tryd.prog 42 [t49] Kp w fun t50 w =>  -- law.go:107
        oAlloc Tryd.prog 35 Kp w fun t11 w =>  -- law.go:107
        oStore Tryd.prog 35 t11 t50 Kp w fun _t w =>  -- law.go:107
        ∃ S3 : World → Prop, S3 w.drew ∧
        oHL Tryd.prog S3 35 t11 w.drew fun t51 w =>  -- law.go:108
        oHL Tryd.prog S3 35 t10 w fun t52 w =>  -- law.go:108
        oBuildS Tryd.prog 33 1 [(0, t52)] noP w fun t53 w => S3 w ∧  -- law.go:108
        oBuild Tryd.prog 35 [(1, (Go.Value.int Go.IntKind.i64 2)), (2, t53)] noP w fun t54 w =>  -- law.go:108
        oCall Tryd.prog 27 [t51, t54] noP w fun t55 w => S3 w ∧  -- law.go:108
        oUn Tryd.prog Go.UnOp.not t55 noP w fun t56 w => S3 w ∧  -- law.go:108
        oG (isB t56 false) (fun K => oHL Tryd.prog S3 35 t11 w K) (fun t58 w =>  -- law.go:108
        oG (isB t56 false) (fun K => oCall Tryd.prog 39 [t58] noP w (fun v w => S3 w ∧ K v w)) (fun t59 w =>  -- law.go:108
        oG (isB t56 false) (fun K => oHL Tryd.prog S3 35 t10 w K) (fun t60 w =>  -- law.go:108
        oG (isB t56 false) (fun K => oCall Tryd.prog 39 [t60] noP w K) (fun t61 w =>  -- law.go:108
        oG (isB t56 false) (fun K => oD (twin t59 t61) (oBin Tryd.prog Go.BinOp.neq 28 (Go.Operand.tmp 59) (Go.Operand.tmp 61) t59 t61 noP w K)) (fun t62 w =>  -- law.go:108
        oPick Tryd.prog t56 (Go.Value.bool Bool.true) t62 noP w fun t63 w =>  -- law.go:108
        oCond t63 (
         R (Go.Value.bool Bool.false) w) (
         oIA Tryd.prog 33 (f1 3) (f2 41) noP w.drew fun t66 w =>  -- law.go:111
         oLD Tryd.prog 35 t66 w fun t67 w =>  -- law.go:111
         oLD Tryd.prog 35 t10 w fun t68 w =>  -- law.go:111
         oCall Tryd.prog 43 [t67, t68] noP w fun t69 w =>  -- law.go:111
         oUn Tryd.prog Go.UnOp.not t69 noP w fun t70 w =>  -- law.go:111
         oCond t70 (
          R (Go.Value.bool Bool.false) w) (
          oBin Tryd.prog Go.BinOp.add 3 (Go.Operand.tmp 41) (Go.Operand.const (Go.Value.int Go.IntKind.i64 1)) (f2 41) (Go.Value.int Go.IntKind.i64 1) Kp w fun t71 w =>  -- law.go:106
          ag2 [t71] w))) w) w) w) w) w) (
        oBI Tryd.prog Go.Builtin.len #[33] 3 [false] [p0] Kp w fun t73 w =>  -- law.go:115
        oBin Tryd.prog Go.BinOp.eql 3 (Go.Operand.tmp 73) (Go.Operand.const (Go.Value.int Go.IntKind.i64 0)) t73 (Go.Value.int Go.IntKind.i64 0) Kp w fun t75 w =>  -- law.go:116
        oCond t75 (
         oLoad Tryd.prog 35 t7 Kp w fun t76 w =>  -- law.go:117
         oBuild Tryd.prog 35 [] Kp w fun t77 w =>  -- law.go:117
         oCall Tryd.prog 27 [t76, t77] Kp w fun t78 w =>  -- law.go:117
         oG (isB t78 true) (fun K => oLoad Tryd.prog 35 t8 Kp w K) (fun t80 w =>  -- law.go:117
         oG (isB t78 true) (fun K => oBuild Tryd.prog 35 [] Kp w K) (fun t81 w =>  -- law.go:117
         oG (isB t78 true) (fun K => oCall Tryd.prog 27 [t80, t81] Kp w K) (fun t82 w =>  -- law.go:117
         oPick Tryd.prog t78 t82 (Go.Value.bool Bool.false) Kp w fun t83 w =>  -- law.go:117
         R t83 w) w) w) w) (
         oBin Tryd.prog Go.BinOp.eql 3 (Go.Operand.tmp 73) (Go.Operand.const (Go.Value.int Go.IntKind.i64 1)) t73 (Go.Value.int Go.IntKind.i64 1) Kp w fun t85 w =>  -- law.go:118
         oCond t85 (
          oLD Tryd.prog 35 t7 w.drew fun t86 w =>  -- law.go:119
          oIA Tryd.prog 33 p0 (Go.Value.int Go.IntKind.i64 0) noP w fun t88 w =>  -- law.go:119
          oLD Tryd.prog 35 t88 w fun t89 w =>  -- law.go:119
          oCall Tryd.prog 27 [t86, t89] noP w fun t90 w =>  -- law.go:119
          oG (isB t90 true) (fun K => oLD Tryd.prog 35 t8 w K) (fun t92 w =>  -- law.go:119
          oG (isB t90 true) (fun K => K p0 w) (fun t93 w =>  -- law.go:119
          oG (isB t90 true) (fun K => oIA Tryd.prog 33 t93 (Go.Value.int Go.IntKind.i64 0) noP w K) (fun t94 w =>  -- law.go:119
          oG (isB t90 true) (fun K => oLD Tryd.prog 35 t94 w K) (fun t95 w =>  -- law.go:119
          oG (isB t90 true) (fun K => oCall Tryd.prog 27 [t92, t95] noP w K) (fun t96 w =>  -- law.go:119
          oPick Tryd.prog t90 t96 (Go.Value.bool Bool.false) noP w fun t97 w =>  -- law.go:119
          R t97 w) w) w) w) w) w) (
          oLoad Tryd.prog 35 t7 Kp w fun t98 w =>  -- law.go:121
          oBuild Tryd.prog 35 [(1, (Go.Value.int Go.IntKind.i64 3)), (2, p0)] Kp w fun t100 w =>  -- law.go:121
          oCall Tryd.prog 27 [t98, t100] Kp w fun t101 w =>  -- law.go:121
          oG (isB t101 true) (fun K => oLoad Tryd.prog 35 t8 Kp w K) (fun t103 w =>  -- law.go:121
          oG (isB t101 true) (fun K => K p0 w) (fun t104 w =>  -- law.go:121
          oG (isB t101 true) (fun K => oBuild Tryd.prog 35 [(1, (Go.Value.int Go.IntKind.i64 4)), (2, t104)] Kp w K) (fun t105 w =>  -- law.go:121
          oG (isB t101 true) (fun K => oCall Tryd.prog 27 [t103, t105] Kp w K) (fun t106 w =>  -- law.go:121
          oPick Tryd.prog t101 t106 (Go.Value.bool Bool.false) Kp w fun t107 w =>  -- law.go:121
          oG (isB t107 true) (fun K => oLoad Tryd.prog 35 t7 Kp w K) (fun t109 w =>  -- law.go:121
          oG (isB t107 true) (fun K => oCall Tryd.prog 39 [t109] Kp w K) (fun t110 w =>  -- law.go:121
          oG (isB t107 true) (fun K => K (f1 4) w) (fun t111 w =>  -- law.go:121
          oG (isB t107 true) (fun K => oCall Tryd.prog 23 [t111] Kp w K) (fun t112 w =>  -- law.go:121
          oG (isB t107 true) (fun K => oBin Tryd.prog Go.BinOp.eql 28 (Go.Operand.tmp 110) (Go.Operand.tmp 112) t110 t112 Kp w K) (fun t113 w =>  -- law.go:121
          oPick Tryd.prog t107 t113 (Go.Value.bool Bool.false) Kp w fun t114 w =>  -- law.go:121
          oG (isB t114 true) (fun K => oLoad Tryd.prog 35 t8 Kp w K) (fun t116 w =>  -- law.go:121
          oG (isB t114 true) (fun K => oCall Tryd.prog 39 [t116] Kp w K) (fun t117 w =>  -- law.go:121
          oG (isB t114 true) (fun K => K (f1 4) w) (fun t118 w =>  -- law.go:121
          oG (isB t114 true) (fun K => oCall Tryd.prog 23 [t118] Kp w K) (fun t119 w =>  -- law.go:121
          oG (isB t114 true) (fun K => oBin Tryd.prog Go.BinOp.eql 28 (Go.Operand.tmp 117) (Go.Operand.tmp 119) t117 t119 Kp w K) (fun t120 w =>  -- law.go:121
          oPick Tryd.prog t114 t120 (Go.Value.bool Bool.false) Kp w fun t121 w =>  -- law.go:121
          R t121 w) w) w) w) w) w) w) w) w) w) w) w) w) w) w))))))))
def a_trommellaw04_TreeBuilds : Ann := ⟨[(8, [3, 4, 19], 34359214168), (15, [41], 4722366480670621961732)], [], [], []⟩
theorem e_trommellaw04_TreeBuilds (R : VK) (Kp : PK) (p0 : Value) (w : World) : W Tryd.prog a_trommellaw04_TreeBuilds Kp (bodyOf Tryd.f6) (retQ Tryd.prog Tryd.f6.results.toList R) (env0 [p0]) w = n_trommellaw04_TreeBuilds R Kp p0 w := by kernel_rfl
theorem c_trommellaw04_TreeBuilds {R : VK} {Kp : PK} {p0 : Value} {w : World} (h : n_trommellaw04_TreeBuilds R Kp p0 w) : Calls Tryd.prog 6 #[p0] w (callR R Kp) :=
  calls_of_N (an := a_trommellaw04_TreeBuilds) (args := [p0]) mixed_N1 Tryd.func6 (by kernel_rfl) (by kernel_rfl) (by kernel_rfl) (e_trommellaw04_TreeBuilds R Kp p0 w) h

/-- trommel/trommellaw04.TreeOwns -/
def n_trommellaw04_TreeOwns (R : VK) (Kp : PK) (p0 : Value) (w : World) : Prop :=
  oCall Tryd.prog 20 [] Kp w fun t18 w =>  -- law.go:126
  oUn Tryd.prog Go.UnOp.not t18 Kp w fun t19 w =>  -- law.go:126
  oCond t19 (
   R (Go.Value.bool Bool.false) w) (
   oCall Tryd.prog 26 [p0] Kp w fun t21 w =>  -- law.go:129
   oUn Tryd.prog Go.UnOp.not t21 Kp w fun t22 w =>  -- law.go:129
   oCond t22 (
    R (Go.Value.bool Bool.true) w) (
    oBI Tryd.prog Go.Builtin.len #[33] 3 [false] [p0] Kp w fun t24 w =>  -- law.go:133
    nLoop [3, 25] [(Go.Value.slice Option.none 0 0), (Go.Value.int Go.IntKind.i64 0)] w (fun f1 ag1 w =>  -- 3=mine, 25=
     oBin Tryd.prog Go.BinOp.lss 3 (Go.Operand.tmp 25) (Go.Operand.tmp 24) (f1 25) t24 Kp w fun t26 w =>  -- law.go:133
     oCond t26 (
      oIA Tryd.prog 33 p0 (f1 25) Kp w fun t27 w =>  -- law.go:133
      oLoad Tryd.prog 35 t27 Kp w fun t28 w =>  -- law.go:133
      oAlloc Tryd.prog 35 Kp w fun t5 w =>  -- law.go:133
      oStore Tryd.prog 35 t5 t28 Kp w fun _t w =>  -- law.go:133
      oLoad Tryd.prog 35 t5 Kp w fun t30 w =>  -- law.go:134
      oCall Tryd.prog 29 [t30] Kp w fun t31 w =>  -- law.go:134
      oBuildS Tryd.prog 33 1 [(0, t31)] Kp w fun t32 w =>  -- law.go:134
      oBI Tryd.prog Go.Builtin.append #[33, 33] 33 [false, false] [(f1 3), t32] Kp w fun t33 w =>  -- law.go:134
      oBin Tryd.prog Go.BinOp.add 3 (Go.Operand.tmp 25) (Go.Operand.const (Go.Value.int Go.IntKind.i64 1)) (f1 25) (Go.Value.int Go.IntKind.i64 1) Kp w fun t34 w =>  -- law.go:133
      ag1 [t33, t34] w) (
      oCall Tryd.prog 40 [(f1 3)] Kp w fun t36 w =>  -- law.go:136
      oCall Tryd.prog 40 [(f1 3)] Kp w fun t38 w =>  -- law.go:136
      oCall Tryd.prog 41 [(f1 3)] Kp w fun t40 w =>  -- law.go:136
      oCall Tryd.prog 41 [(f1 3)] Kp w fun t42 w =>  -- law.go:136
      oAlloc Tryd.prog 35 Kp w fun t6 w =>  -- law.go:136
      oAlloc Tryd.prog 35 Kp w fun t7 w =>  -- law.go:136
      oAlloc Tryd.prog 35 Kp w fun t8 w =>  -- law.go:136
      oAlloc Tryd.prog 35 Kp w fun t9 w =>  -- law.go:136
      oStore Tryd.prog 35 t6 t36 Kp w fun _t w =>  -- law.go:136
      oStore Tryd.prog 35 t7 t38 Kp w fun _t w =>  -- law.go:136
      oStore Tryd.prog 35 t8 t40 Kp w fun _t w =>  -- law.go:136
      oStore Tryd.prog 35 t9 t42 Kp w fun _t w =>  -- law.go:136
      oBI Tryd.prog Go.Builtin.len #[33] 3 [false] [(f1 3)] Kp w fun t44 w =>  -- law.go:138
      nLoop [10, 11, 45] [(Go.Value.slice Option.none 0 0), (Go.Value.slice Option.none 0 0), (Go.Value.int Go.IntKind.i64 0)] w (fun f2 ag2 w =>  -- 10=not, 11=knot, 45=
       oBin Tryd.prog Go.BinOp.lss 3 (Go.Operand.tmp 45) (Go.Operand.tmp 44) (f2 45) t44 Kp w fun t46 w =>  -- law.go:138
       oCond t46 (
        oIA Tryd.prog 33 (f1 3) (f2 45) Kp w fun t47 w =>  -- law.go:138
        oLoad Tryd.prog 35 t47 Kp w fun t48 w =>  -- law.go:138
        oAlloc Tryd.prog 35 Kp w fun t13 w =>  -- law.go:138
        oStore Tryd.prog 35 t13 t48 Kp w fun _t w =>  -- law.go:138
        ∃ S3 : World → Prop, S3 w.drew ∧
        oHL Tryd.prog S3 35 t13 w.drew fun t50 w =>  -- law.go:139
        oCall Tryd.prog 42 [t50] noP w fun t51 w => S3 w ∧  -- law.go:139
        oBuildS Tryd.prog 33 1 [(0, t51)] noP w fun t52 w => S3 w ∧  -- law.go:139
        oBI Tryd.prog Go.Builtin.append #[33, 33] 33 [false, false] [(f2 10), t52] noP w fun t53 w => S3 w ∧  -- law.go:139
        oHL Tryd.prog S3 35 t13 w fun t55 w =>  -- law.go:139
        oCall Tryd.prog 42 [t55] noP w fun t56 w =>  -- law.go:139
        oBuildS Tryd.prog 33 1 [(0, t56)] noP w fun t57 w =>  -- law.go:139
        oBI Tryd.prog Go.Builtin.append #[33, 33] 33 [false, false] [(f2 11), t57] noP w fun t58 w =>  -- law.go:139
        oBin Tryd.prog Go.BinOp.add 3 (Go.Operand.tmp 45) (Go.Operand.const (Go.Value.int Go.IntKind.i64 1)) (f2 45) (Go.Value.int Go.IntKind.i64 1) Kp w fun t59 w =>  -- law.go:138
        ag2 [t53, t58, t59] w) (
        nCut [14, 15] (fun M4 =>
         ∃ S5 : World → Prop, S5 w.drew ∧
         oHL Tryd.prog S5 35 t7 w.drew fun t60 w =>  -- law.go:141
         oHL Tryd.prog S5 35 t9 w fun t62 w =>  -- law.go:141
         oAnd (
          oCall Tryd.prog 29 [t60] noP w fun t61 w => S5 w ∧  -- law.go:141
          oAnd (
           oCall Tryd.prog 29 [t62] noP w fun t63 w =>  -- law.go:141
           oAnd (
            oAlloc Tryd.prog 35 noP w fun t14 w => S5 w ∧  -- law.go:141
            oAlloc Tryd.prog 35 noP w fun t15 w => S5 w ∧  -- law.go:141
            oStore Tryd.prog 35 t14 t61 noP w fun _t w =>  -- law.go:141
            oStore Tryd.prog 35 t15 t63 noP w fun _t w =>  -- law.go:141
            M4 [t14, t15] w) (
            oAlloc Tryd.prog 35 noP w fun t15 w => S5 w ∧  -- law.go:141
            oAlloc Tryd.prog 35 noP w fun t14 w => S5 w ∧  -- law.go:141
            oStore Tryd.prog 35 t14 t61 noP w fun _t w =>  -- law.go:141
            oStore Tryd.prog 35 t15 t63 noP w fun _t w =>  -- law.go:141
            M4 [t14, t15] w)) (
           oAnd (
            oAlloc Tryd.prog 35 noP w fun t14 w => S5 w ∧  -- law.go:141
            oAnd (
             oCall Tryd.prog 29 [t62] noP w fun t63 w =>  -- law.go:141
             oAlloc Tryd.prog 35 noP w fun t15 w => S5 w ∧  -- law.go:141
             oStore Tryd.prog 35 t14 t61 noP w fun _t w =>  -- law.go:141
             oStore Tryd.prog 35 t15 t63 noP w fun _t w =>  -- law.go:141
             M4 [t14, t15] w) (
             oAlloc Tryd.prog 35 noP w fun t15 w => S5 w ∧  -- law.go:141
             oCall Tryd.prog 29 [t62] noP w fun t63 w =>  -- law.go:141
             oStore Tryd.prog 35 t14 t61 noP w fun _t w =>  -- law.go:141
             oStore Tryd.prog 35 t15 t63 noP w fun _t w =>  -- law.go:141
             M4 [t14, t15] w)) (
            oAlloc Tryd.prog 35 noP w fun t15 w => S5 w ∧  -- law.go:141
            oAnd (
             oCall Tryd.prog 29 [t62] noP w fun t63 w =>  -- law.go:141
             oAlloc Tryd.prog 35 noP w fun t14 w => S5 w ∧  -- law.go:141
             oStore Tryd.prog 35 t14 t61 noP w fun _t w =>  -- law.go:141
             oStore Tryd.prog 35 t15 t63 noP w fun _t w =>  -- law.go:141
             M4 [t14, t15] w) (
             oAlloc Tryd.prog 35 noP w fun t14 w => S5 w ∧  -- law.go:141
             oCall Tryd.prog 29 [t62] noP w fun t63 w =>  -- law.go:141
             oStore Tryd.prog 35 t14 t61 noP w fun _t w =>  -- law.go:141
             oStore Tryd.prog 35 t15 t63 noP w fun _t w =>  -- law.go:141
             M4 [t14, t15] w)))) (
          oAnd (
           oAlloc Tryd.prog 35 noP w fun t14 w => S5 w ∧  -- law.go:141
           oAnd (
            oCall Tryd.prog 29 [t60] noP w fun t61 w => S5 w ∧  -- law.go:141
            oAnd (
             oCall Tryd.prog 29 [t62] noP w fun t63 w =>  -- law.go:141
             oAlloc Tryd.prog 35 noP w fun t15 w => S5 w ∧  -- law.go:141
             oStore Tryd.prog 35 t14 t61 noP w fun _t w =>  -- law.go:141
             oStore Tryd.prog 35 t15 t63 noP w fun _t w =>  -- law.go:141
             M4 [t14, t15] w) (
             oAlloc Tryd.prog 35 noP w fun t15 w => S5 w ∧  -- law.go:141
             oCall Tryd.prog 29 [t62] noP w fun t63 w =>  -- law.go:141
             oStore Tryd.prog 35 t14 t61 noP w fun _t w =>  -- law.go:141
             oStore Tryd.prog 35 t15 t63 noP w fun _t w =>  -- law.go:141
             M4 [t14, t15] w)) (
            oAlloc Tryd.prog 35 noP w fun t15 w => S5 w ∧  -- law.go:141
            oCall Tryd.prog 29 [t60] noP w fun t61 w => S5 w ∧  -- law.go:141
            oCall Tryd.prog 29 [t62] noP w fun t63 w =>  -- law.go:141
            oStore Tryd.prog 35 t14 t61 noP w fun _t w =>  -- law.go:141
            oStore Tryd.prog 35 t15 t63 noP w fun _t w =>  -- law.go:141
            M4 [t14, t15] w)) (
           oAlloc Tryd.prog 35 noP w fun t15 w => S5 w ∧  -- law.go:141
           oAnd (
            oCall Tryd.prog 29 [t60] noP w fun t61 w => S5 w ∧  -- law.go:141
            oAnd (
             oCall Tryd.prog 29 [t62] noP w fun t63 w =>  -- law.go:141
             oAlloc Tryd.prog 35 noP w fun t14 w => S5 w ∧  -- law.go:141
             oStore Tryd.prog 35 t14 t61 noP w fun _t w =>  -- law.go:141
             oStore Tryd.prog 35 t15 t63 noP w fun _t w =>  -- law.go:141
             M4 [t14, t15] w) (
             oAlloc Tryd.prog 35 noP w fun t14 w => S5 w ∧  -- law.go:141
             oCall Tryd.prog 29 [t62] noP w fun t63 w =>  -- law.go:141
             oStore Tryd.prog 35 t14 t61 noP w fun _t w =>  -- law.go:141
             oStore Tryd.prog 35 t15 t63 noP w fun _t w =>  -- law.go:141
             M4 [t14, t15] w)) (
            oAlloc Tryd.prog 35 noP w fun t14 w => S5 w ∧  -- law.go:141
            oCall Tryd.prog 29 [t60] noP w fun t61 w => S5 w ∧  -- law.go:141
            oCall Tryd.prog 29 [t62] noP w fun t63 w =>  -- law.go:141
            oStore Tryd.prog 35 t14 t61 noP w fun _t w =>  -- law.go:141
            oStore Tryd.prog 35 t15 t63 noP w fun _t w =>  -- law.go:141
            M4 [t14, t15] w))))
        (fun g4 w =>
         oLoad Tryd.prog 35 t6 Kp w fun t64 w =>  -- law.go:142
         oCall Tryd.prog 44 [t64] Kp w fun t65 w =>  -- law.go:142
         oLoad Tryd.prog 35 t8 Kp w fun t66 w =>  -- law.go:143
         oCall Tryd.prog 44 [t66] Kp w fun t67 w =>  -- law.go:143
         oBI Tryd.prog Go.Builtin.len #[33] 3 [false] [(f2 10)] Kp w fun t69 w =>  -- law.go:144
         nLoop [70] [(Go.Value.int Go.IntKind.i64 0)] w (fun f6 ag6 w =>  -- 70=
          oBin Tryd.prog Go.BinOp.lss 3 (Go.Operand.tmp 70) (Go.Operand.tmp 69) (f6 70) t69 Kp w fun t71 w =>  -- law.go:144
          oCond t71 (
           oIA Tryd.prog 33 (f2 10) (f6 70) Kp w fun t75 w =>  -- law.go:145
           oLoad Tryd.prog 35 t75 Kp w fun t76 w =>  -- law.go:145
           oCall Tryd.prog 44 [t76] Kp w fun t77 w =>  -- law.go:145
           oIA Tryd.prog 33 (f1 3) (f6 70) noP w.drew fun t80 w =>  -- law.go:146
           oLD Tryd.prog 35 t80 w fun t81 w =>  -- law.go:146
           oIA Tryd.prog 33 p0 (f6 70) noP w fun t84 w =>  -- law.go:146
           oLD Tryd.prog 35 t84 w fun t85 w =>  -- law.go:146
           oCall Tryd.prog 43 [t81, t85] noP w fun t86 w =>  -- law.go:146
           oUn Tryd.prog Go.UnOp.not t86 noP w fun t87 w =>  -- law.go:146
           oCond t87 (
            R (Go.Value.bool Bool.false) w) (
            oIA Tryd.prog 33 (f1 3) (f6 70) Kp w fun t90 w =>  -- law.go:149
            oLoad Tryd.prog 35 t90 Kp w fun t91 w =>  -- law.go:149
            oCall Tryd.prog 44 [t91] Kp w fun t92 w =>  -- law.go:149
            oBin Tryd.prog Go.BinOp.add 3 (Go.Operand.tmp 70) (Go.Operand.const (Go.Value.int Go.IntKind.i64 1)) (f6 70) (Go.Value.int Go.IntKind.i64 1) Kp w fun t93 w =>  -- law.go:144
            ag6 [t93] w)) (
           oBI Tryd.prog Go.Builtin.len #[33] 3 [false] [(f2 11)] Kp w fun t95 w =>  -- law.go:151
           nLoop [96] [(Go.Value.int Go.IntKind.i64 0)] w (fun f7 ag7 w =>  -- 96=
            oBin Tryd.prog Go.BinOp.lss 3 (Go.Operand.tmp 96) (Go.Operand.tmp 95) (f7 96) t95 Kp w fun t97 w =>  -- law.go:151
            oCond t97 (
             oIA Tryd.prog 33 (f2 11) (f7 96) noP w.drew fun t101 w =>  -- law.go:152
             oLD Tryd.prog 35 t101 w fun t102 w =>  -- law.go:152
             oD (twin (f7 96) (Go.Value.int Go.IntKind.i64 1)) (oBin Tryd.prog Go.BinOp.add 3 (Go.Operand.tmp 105) (Go.Operand.const (Go.Value.int Go.IntKind.i64 1)) (f7 96) (Go.Value.int Go.IntKind.i64 1) noP w (fun t106 w =>  -- law.go:152
             oSL Tryd.prog 33 p0 (some (f7 96)) (some t106) none noP w fun t107 w =>  -- law.go:152
             oBuild Tryd.prog 35 [(1, (Go.Value.int Go.IntKind.i64 2)), (2, t107)] noP w fun t108 w =>  -- law.go:152
             oCall Tryd.prog 27 [t102, t108] noP w fun t109 w =>  -- law.go:152
             oUn Tryd.prog Go.UnOp.not t109 noP w fun t110 w =>  -- law.go:152
             oCond t110 (
              R (Go.Value.bool Bool.false) w) (
              oBin Tryd.prog Go.BinOp.add 3 (Go.Operand.tmp 96) (Go.Operand.const (Go.Value.int Go.IntKind.i64 1)) (f7 96) (Go.Value.int Go.IntKind.i64 1) Kp w fun t111 w =>  -- law.go:151
              ag7 [t111] w)))) (
             oLoad Tryd.prog 35 t7 Kp w fun t112 w =>  -- law.go:156
             oLoad Tryd.prog 35 (g4 14) Kp w fun t113 w =>  -- law.go:156
             oCall Tryd.prog 27 [t112, t113] Kp w fun t114 w =>  -- law.go:156
             oG (isB t114 true) (fun K => oLoad Tryd.prog 35 t9 Kp w K) (fun t116 w =>  -- law.go:156
             oG (isB t114 true) (fun K => oLoad Tryd.prog 35 (g4 15) Kp w K) (fun t117 w =>  -- law.go:156
             oG (isB t114 true) (fun K => oCall Tryd.prog 27 [t116, t117] Kp w K) (fun t118 w =>  -- law.go:156
             oPick Tryd.prog t114 t118 (Go.Value.bool Bool.false) Kp w fun t119 w =>  -- law.go:156
             R t119 w) w) w) w)))))))))))
def a_trommellaw04_TreeOwns : Ann := ⟨[(7, [3, 25], 34326183976), (14, [10, 11, 45], 1152886320234769408), (22, [70], 19807039447974463680974749700), (30, [96], 5192217630372313364192902785400836)], [(19, [14, 15], 17293822569102753792)], [(18, (.one 0 (.one 2 (.alt 1 (.alt 3 (.alt 4 (.one 5 (.one 6 (.one 7 .nil))) (.one 5 (.one 4 (.one 6 (.one 7 .nil))))) (.alt 4 (.alt 3 (.one 5 (.one 6 (.one 7 .nil))) (.one 5 (.one 3 (.one 6 (.one 7 .nil))))) (.one 5 (.alt 3 (.one 4 (.one 6 (.one 7 .nil))) (.one 4 (.one 3 (.one 6 (.one 7 .nil)))))))) (.alt 4 (.alt 1 (.alt 3 (.one 5 (.one 6 (.one 7 .nil))) (.one 5 (.one 3 (.one 6 (.one 7 .nil))))) (.one 5 (.one 1 (.one 3 (.one 6 (.one 7 .nil)))))) (.one 5 (.alt 1 (.alt 3 (.one 4 (.one 6 (.one 7 .nil))) (.one 4 (.one 3 (.one 6 (.one 7 .nil))))) (.one 4 (.one 1 (.one 3 (.one 6 (.one 7 .nil))))))))))))], []⟩
theorem e_trommellaw04_TreeOwns (R : VK) (Kp : PK) (p0 : Value) (w : World) : W Tryd.prog a_trommellaw04_TreeOwns Kp (bodyOf Tryd.f7) (retQ Tryd.prog Tryd.f7.results.toList R) (env0 [p0]) w = n_trommellaw04_TreeOwns R Kp p0 w := by kernel_rfl
theorem c_trommellaw04_TreeOwns {R : VK} {Kp : PK} {p0 : Value} {w : World} (h : n_trommellaw04_TreeOwns R Kp p0 w) : Calls Tryd.prog 7 #[p0] w (callR R Kp) :=
  calls_of_N (an := a_trommellaw04_TreeOwns) (args := [p0]) mixed_N1 Tryd.func7 (by kernel_rfl) (by kernel_rfl) (by kernel_rfl) (e_trommellaw04_TreeOwns R Kp p0 w) h

/-- trommel/trommellaw04.TreeDepths -/
def n_trommellaw04_TreeDepths (R : VK) (Kp : PK) (p0 : Value) (w : World) : Prop :=
  oCall Tryd.prog 20 [] Kp w fun t9 w =>  -- more.go:11
  oUn Tryd.prog Go.UnOp.not t9 Kp w fun t10 w =>  -- more.go:11
  oCond t10 (
   R (Go.Value.bool Bool.false) w) (
   oCall Tryd.prog 26 [p0] Kp w fun t12 w =>  -- more.go:14
   oUn Tryd.prog Go.UnOp.not t12 Kp w fun t13 w =>  -- more.go:14
   oCond t13 (
    R (Go.Value.bool Bool.true) w) (
    oBI Tryd.prog Go.Builtin.len #[33] 3 [false] [p0] Kp w fun t15 w =>  -- more.go:18
    nLoop [3, 4, 16] [(Go.Value.int Go.IntKind.i64 0), (Go.Value.int Go.IntKind.i64 0), (Go.Value.int Go.IntKind.i64 0)] w (fun f1 ag1 w =>  -- 3=deep, 4=size, 16=
     oBin Tryd.prog Go.BinOp.lss 3 (Go.Operand.tmp 16) (Go.Operand.tmp 15) (f1 16) t15 Kp w fun t17 w =>  -- more.go:18
     oCond t17 (
      oIA Tryd.prog 33 p0 (f1 16) Kp w fun t18 w =>  -- more.go:18
      oLoad Tryd.prog 35 t18 Kp w fun t19 w =>  -- more.go:18
      oAlloc Tryd.prog 35 Kp w fun t6 w =>  -- more.go:18
      oStore Tryd.prog 35 t6 t19 Kp w fun _t w =>  -- more.go:18
      ∃ S2 : World → Prop, S2 w.drew ∧
      oHL Tryd.prog S2 35 t6 w.drew fun t21 w =>  -- more.go:19
      oCall Tryd.prog 45 [t21] noP w fun t22 w => S2 w ∧  -- more.go:19
      oD (intsOk [(f1 3), t22]) (oBI Tryd.prog Go.Builtin.max #[3, 3] 3 [false, false] [(f1 3), t22] noP w (fun t23 w =>  -- more.go:19
      oHL Tryd.prog S2 35 t6 w fun t25 w =>  -- more.go:19
      oCall Tryd.prog 46 [t25] noP w fun t26 w =>  -- more.go:19
      oD (twin (f1 4) t26) (oBin Tryd.prog Go.BinOp.add 3 (Go.Operand.tmp 24) (Go.Operand.tmp 26) (f1 4) t26 noP w (fun t27 w =>  -- more.go:19
      ∃ S3 : World → Prop, S3 w.drew ∧
      oHL Tryd.prog S3 35 t6 w.drew fun t28 w =>  -- more.go:20
      oCall Tryd.prog 42 [t28] noP w fun t29 w => S3 w ∧  -- more.go:20
      oCall Tryd.prog 45 [t29] noP w fun t30 w => S3 w ∧  -- more.go:20
      oHL Tryd.prog S3 35 t6 w fun t31 w =>  -- more.go:20
      oCall Tryd.prog 45 [t31] noP w fun t32 w => S3 w ∧  -- more.go:20
      oD (twin t32 (Go.Value.int Go.IntKind.i64 1)) (oBin Tryd.prog Go.BinOp.add 3 (Go.Operand.tmp 32) (Go.Operand.const (Go.Value.int Go.IntKind.i64 1)) t32 (Go.Value.int Go.IntKind.i64 1) noP w (fun t33 w =>  -- more.go:20
      oD (twin t30 t33) (oBin Tryd.prog Go.BinOp.neq 3 (Go.Operand.tmp 30) (Go.Operand.tmp 33) t30 t33 noP w (fun t34 w =>  -- more.go:20
      oG (isB t34 false) (fun K => oHL Tryd.prog S3 35 t6 w K) (fun t36 w =>  -- more.go:20
      oG (isB t34 false) (fun K => oCall Tryd.prog 42 [t36] noP w (fun v w => S3 w ∧ K v w)) (fun t37 w =>  -- more.go:20
      oG (isB t34 false) (fun K => oCall Tryd.prog 46 [t37] noP w (fun v w => S3 w ∧ K v w)) (fun t38 w =>  -- more.go:20
      oG (isB t34 false) (fun K => oHL Tryd.prog S3 35 t6 w K) (fun t39 w =>  -- more.go:20
      oG (isB t34 false) (fun K => oCall Tryd.prog 46 [t39] noP w (fun v w => S3 w ∧ K v w)) (fun t40 w =>  -- more.go:20
      oG (isB t34 false) (fun K => oD (twin t40 (Go.Value.int Go.IntKind.i64 1)) (oBin Tryd.prog Go.BinOp.add 3 (Go.Operand.tmp 40) (Go.Operand.const (Go.Value.int Go.IntKind.i64 1)) t40 (Go.Value.int Go.IntKind.i64 1) noP w K)) (fun t41 w =>  -- more.go:20
      oG (isB t34 false) (fun K => oD (twin t38 t41) (oBin Tryd.prog Go.BinOp.neq 3 (Go.Operand.tmp 38) (Go.Operand.tmp 41) t38 t41 noP w K)) (fun t42 w =>  -- more.go:20
      oPick Tryd.prog t34 (Go.Value.bool Bool.true) t42 noP w fun t43 w =>  -- more.go:20
      oG (isB t43 false) (fun K => oHL Tryd.prog S3 35 t6 w K) (fun t45 w =>  -- more.go:20
      oG (isB t43 false) (fun K => oCall Tryd.prog 45 [t45] noP w (fun v w => S3 w ∧ K v w)) (fun t46 w =>  -- more.go:20
      oG (isB t43 false) (fun K => oD (twin t46 (Go.Value.int Go.IntKind.i64 1)) (oBin Tryd.prog Go.BinOp.lss 3 (Go.Operand.tmp 46) (Go.Operand.const (Go.Value.int Go.IntKind.i64 1)) t46 (Go.Value.int Go.IntKind.i64 1) noP w K)) (fun t47 w =>  -- more.go:20
      oPick Tryd.prog t43 (Go.Value.bool Bool.true) t47 noP w fun t48 w =>  -- more.go:20
      oG (isB t48 false) (fun K => oHL Tryd.prog S3 35 t6 w K) (fun t50 w =>  -- more.go:20
      oG (isB t48 false) (fun K => oCall Tryd.prog 46 [t50] noP w (fun v w => S3 w ∧ K v w)) (fun t51 w =>  -- more.go:20
      oG (isB t48 false) (fun K => oHL Tryd.prog S3 35 t6 w K) (fun t52 w =>  -- more.go:20
      oG (isB t48 false) (fun K => oCall Tryd.prog 45 [t52] noP w K) (fun t53 w =>  -- more.go:20
      oG (isB t48 false) (fun K => oD (twin t51 t53) (oBin Tryd.prog Go.BinOp.lss 3 (Go.Operand.tmp 51) (Go.Operand.tmp 53) t51 t53 noP w K)) (fun t54 w =>  -- more.go:20
      oPick Tryd.prog t48 (Go.Value.bool Bool.true) t54 noP w fun t55 w =>  -- more.go:20
      oCond t55 (
       R (Go.Value.bool Bool.false) w) (
       oBin Tryd.prog Go.BinOp.add 3 (Go.Operand.tmp 16) (Go.Operand.const (Go.Value.int Go.IntKind.i64 1)) (f1 16) (Go.Value.int Go.IntKind.i64 1) Kp w fun t56 w =>  -- more.go:18
       ag1 [t23, t27, t56] w)) w) w) w) w) w) w) w) w) w) w) w) w) w) w) w))))))))) (
      oCall Tryd.prog 40 [p0] Kp w fun t58 w =>  -- more.go:24
      oCall Tryd.prog 41 [p0] Kp w fun t60 w =>  -- more.go:24
      oAlloc Tryd.prog 35 Kp w fun t7 w =>  -- more.go:24
      oAlloc Tryd.prog 35 Kp w fun t8 w =>  -- more.go:24
      oStore Tryd.prog 35 t7 t58 Kp w fun _t w =>  -- more.go:24
      oStore Tryd.prog 35 t8 t60 Kp w fun _t w =>  -- more.go:24
      oBI Tryd.prog Go.Builtin.len #[33] 3 [false] [p0] Kp w fun t62 w =>  -- more.go:25
      oBin Tryd.prog Go.BinOp.lss 3 (Go.Operand.tmp 62) (Go.Operand.const (Go.Value.int Go.IntKind.i64 2)) t62 (Go.Value.int Go.IntKind.i64 2) Kp w fun t63 w =>  -- more.go:25
      oCond t63 (
       oLoad Tryd.prog 35 t7 Kp w fun t64 w =>  -- more.go:26
       oCall Tryd.prog 45 [t64] Kp w fun t65 w =>  -- more.go:26
       oBI Tryd.prog Go.Builtin.max #[3, 3] 3 [false, true] [(f1 3), (Go.Value.int Go.IntKind.i64 1)] Kp w fun t67 w =>  -- more.go:26
       oBin Tryd.prog Go.BinOp.eql 3 (Go.Operand.tmp 65) (Go.Operand.tmp 67) t65 t67 Kp w fun t68 w =>  -- more.go:26
       oG (isB t68 true) (fun K => oLoad Tryd.prog 35 t8 Kp w K) (fun t70 w =>  -- more.go:26
       oG (isB t68 true) (fun K => oCall Tryd.prog 46 [t70] Kp w K) (fun t71 w =>  -- more.go:26
       oG (isB t68 true) (fun K => K (f1 4) w) (fun t72 w =>  -- more.go:26
       oG (isB t68 true) (fun K => oBI Tryd.prog Go.Builtin.max #[3, 3] 3 [false, true] [t72, (Go.Value.int Go.IntKind.i64 1)] Kp w K) (fun t73 w =>  -- more.go:26
       oG (isB t68 true) (fun K => oBin Tryd.prog Go.BinOp.eql 3 (Go.Operand.tmp 71) (Go.Operand.tmp 73) t71 t73 Kp w K) (fun t74 w =>  -- more.go:26
       oPick Tryd.prog t68 t74 (Go.Value.bool Bool.false) Kp w fun t75 w =>  -- more.go:26
       R t75 w) w) w) w) w) w) (
       oLoad Tryd.prog 35 t7 Kp w fun t76 w =>  -- more.go:28
       oCall Tryd.prog 45 [t76] Kp w fun t77 w =>  -- more.go:28
       oBin Tryd.prog Go.BinOp.add 3 (Go.Operand.tmp 78) (Go.Operand.const (Go.Value.int Go.IntKind.i64 1)) (f1 3) (Go.Value.int Go.IntKind.i64 1) Kp w fun t79 w =>  -- more.go:28
       oBin Tryd.prog Go.BinOp.eql 3 (Go.Operand.tmp 77) (Go.Operand.tmp 79) t77 t79 Kp w fun t80 w =>  -- more.go:28
       oG (isB t80 true) (fun K => oLoad Tryd.prog 35 t8 Kp w K) (fun t82 w =>  -- more.go:28
       oG (isB t80 true) (fun K => oCall Tryd.prog 45 [t82] Kp w K) (fun t83 w =>  -- more.go:28
       oG (isB t80 true) (fun K => K (f1 3) w) (fun t84 w =>  -- more.go:28
       oG (isB t80 true) (fun K => oBin Tryd.prog Go.BinOp.add 3 (Go.Operand.tmp 84) (Go.Operand.const (Go.Value.int Go.IntKind.i64 1)) t84 (Go.Value.int Go.IntKind.i64 1) Kp w K) (fun t85 w =>  -- more.go:28
       oG (isB t80 true) (fun K => oBin Tryd.prog Go.BinOp.eql 3 (Go.Operand.tmp 83) (Go.Operand.tmp 85) t83 t85 Kp w K) (fun t86 w =>  -- more.go:28
       oPick Tryd.prog t80 t86 (Go.Value.bool Bool.false) Kp w fun t87 w =>  -- more.go:28
       oG (isB t87 true) (fun K => oLoad Tryd.prog 35 t7 Kp w K) (fun t89 w =>  -- more.go:28
       oG (isB t87 true) (fun K => oCall Tryd.prog 46 [t89] Kp w K) (fun t90 w =>  -- more.go:28
       oG (isB t87 true) (fun K => K (f1 4) w) (fun t91 w =>  -- more.go:28
       oG (isB t87 true) (fun K => oBin Tryd.prog Go.BinOp.add 3 (Go.Operand.tmp 91) (Go.Operand.const (Go.Value.int Go.IntKind.i64 1)) t91 (Go.Value.int Go.IntKind.i64 1) Kp w K) (fun t92 w =>  -- more.go:28
       oG (isB t87 true) (fun K => oBin Tryd.prog Go.BinOp.eql 3 (Go.Operand.tmp 90) (Go.Operand.tmp 92) t90 t92 Kp w K) (fun t93 w =>  -- more.go:28
       oPick Tryd.prog t87 t93 (Go.Value.bool Bool.false) Kp w fun t94 w =>  -- more.go:28
       oG (isB t94 true) (fun K => oLoad Tryd.prog 35 t8 Kp w K) (fun t96 w =>  -- more.go:28
       oG (isB t94 true) (fun K => oCall Tryd.prog 46 [t96] Kp w K) (fun t97 w =>  -- more.go:28
       oG (isB t94 true) (fun K => K (f1 4) w) (fun t98 w =>  -- more.go:28
       oG (isB t94 true) (fun K => oBin Tryd.prog Go.BinOp.add 3 (Go.Operand.tmp 98) (Go.Operand.const (Go.Value.int Go.IntKind.i64 1)) t98 (Go.Value.int Go.IntKind.i64 1) Kp w K) (fun t99 w =>  -- more.go:28
       oG (isB t94 true) (fun K => oBin Tryd.prog Go.BinOp.eql 3 (Go.Operand.tmp 97) (Go.Operand.tmp 99) t97 t99 Kp w K) (fun t100 w =>  -- more.go:28
       oPick Tryd.prog t94 t100 (Go.Value.bool Bool.false) Kp w fun t101 w =>  -- more.go:28
       R t101 w) w) w) w) w) w) w) w) w) w) w) w) w) w) w) w)))))
def a_trommellaw04_TreeDepths : Ann := ⟨[(7, [3, 4, 16], 144115188075790428)], [], [], []⟩
theorem e_trommellaw04_TreeDepths (R : VK) (Kp : PK) (p0 : Value) (w : World) : W Tryd.prog a_trommellaw04_TreeDepths Kp (bodyOf Tryd.f8) (retQ Tryd.prog Tryd.f8.results.toList R) (env0 [p0]) w = n_trommellaw04_TreeDepths R Kp p0 w := by kernel_rfl
theorem c_trommellaw04_TreeDepths {R : VK} {Kp : PK} {p0 : Value} {w : World} (h : n_trommellaw04_TreeDepths R Kp p0 w) : Calls Tryd.prog 8 #[p0] w (callR R Kp) :=
  calls_of_N (an := a_trommellaw04_TreeDepths) (args := [p0]) mixed_N1 Tryd.func8 (by kernel_rfl) (by kernel_rfl) (by kernel_rfl) (e_trommellaw04_TreeDepths R Kp p0 w) h

/-- trommel/trommellaw04.fixed -/
def n_trommellaw04_fixed (R : VK) (Kp : PK) (w : World) : Prop :=
  oBuildS Tryd.prog 22 2 [(0, (Go.Value.int Go.IntKind.i64 1)), (1, (Go.Value.int Go.IntKind.i64 (-2)))] Kp w fun t4 w =>  -- law.go:13
  oCall Tryd.prog 33 [(Go.Value.string (ByteArray.mk #[97])), t4] Kp w fun t5 w =>  -- law.go:13
  oCall Tryd.prog 35 [(Go.Value.string (ByteArray.mk #[97])), (Go.Value.int Go.IntKind.i64 5), (Go.Value.int Go.IntKind.i64 3)] Kp w fun t6 w =>  -- law.go:13
  oBuildS Tryd.prog 33 2 [(0, t5), (1, t6)] Kp w fun t7 w =>  -- law.go:13
  oCall Tryd.prog 41 [t7] Kp w fun t8 w =>  -- law.go:13
  oCall Tryd.prog 36 [(Go.Value.string (ByteArray.mk #[99])), (Go.Value.string (ByteArray.mk #[120]))] Kp w fun t9 w =>  -- law.go:13
  oCall Tryd.prog 42 [t9] Kp w fun t10 w =>  -- law.go:13
  oBuildS Tryd.prog 23 1 [(0, (Go.Value.string (ByteArray.mk #[121])))] Kp w fun t11 w =>  -- law.go:13
  oCall Tryd.prog 34 [(Go.Value.string (ByteArray.mk #[99])), t11] Kp w fun t12 w =>  -- law.go:13
  oBuildS Tryd.prog 33 3 [(0, t8), (1, t10), (2, t12)] Kp w fun t13 w =>  -- law.go:13
  oCall Tryd.prog 40 [t13] Kp w fun t14 w =>  -- law.go:13
  oAlloc Tryd.prog 35 Kp w fun t1 w =>  -- law.go:13
  oStore Tryd.prog 35 t1 t14 Kp w fun _t w =>  -- law.go:13
  oLoad Tryd.prog 35 t1 Kp w fun t16 w =>  -- law.go:14
  oCall Tryd.prog 30 [t16] Kp w fun t17 w =>  -- law.go:14
  oEX Tryd.prog t17 0 Kp w fun t18 w =>  -- law.go:14
  oEX Tryd.prog t17 1 Kp w fun t19 w =>  -- law.go:14
  oBin Tryd.prog Go.BinOp.eql 28 (Go.Operand.tmp 20) (Go.Operand.const (Go.Value.int Go.IntKind.i64 0)) t19 (Go.Value.int Go.IntKind.i64 0) Kp w fun t21 w =>  -- law.go:15
  oG (isB t21 true) (fun K => K t18 w) (fun t23 w =>  -- law.go:15
  oG (isB t21 true) (fun K => oBin Tryd.prog Go.BinOp.eql 9 (Go.Operand.tmp 23) (Go.Operand.const (Go.Value.string (ByteArray.mk #[40, 97, 32, 123, 49, 44, 32, 45, 50, 125, 32, 124, 32, 97, 32, 91, 53, 44, 32, 51, 93, 41, 32, 38, 32, 33, 99, 32, 34, 120, 34, 42, 32, 38, 32, 99, 32, 123, 34, 121, 34, 125]))) t23 (Go.Value.string (ByteArray.mk #[40, 97, 32, 123, 49, 44, 32, 45, 50, 125, 32, 124, 32, 97, 32, 91, 53, 44, 32, 51, 93, 41, 32, 38, 32, 33, 99, 32, 34, 120, 34, 42, 32, 38, 32, 99, 32, 123, 34, 121, 34, 125])) Kp w K) (fun t24 w =>  -- law.go:15
  oPick Tryd.prog t21 t24 (Go.Value.bool Bool.false) Kp w fun t25 w =>  -- law.go:15
  oG (isB t25 true) (fun K => oLoad Tryd.prog 35 t1 Kp w K) (fun t27 w =>  -- law.go:15
  oG (isB t25 true) (fun K => oCall Tryd.prog 39 [t27] Kp w K) (fun t28 w =>  -- law.go:15
  oG (isB t25 true) (fun K => oBin Tryd.prog Go.BinOp.eql 28 (Go.Operand.tmp 28) (Go.Operand.const (Go.Value.int Go.IntKind.i64 0)) t28 (Go.Value.int Go.IntKind.i64 0) Kp w K) (fun t29 w =>  -- law.go:15
  oPick Tryd.prog t25 t29 (Go.Value.bool Bool.false) Kp w fun t30 w =>  -- law.go:15
  oG (isB t30 true) (fun K => oLoad Tryd.prog 35 t1 Kp w K) (fun t32 w =>  -- law.go:15
  oG (isB t30 true) (fun K => oCall Tryd.prog 45 [t32] Kp w K) (fun t33 w =>  -- law.go:15
  oG (isB t30 true) (fun K => oBin Tryd.prog Go.BinOp.eql 3 (Go.Operand.tmp 33) (Go.Operand.const (Go.Value.int Go.IntKind.i64 3)) t33 (Go.Value.int Go.IntKind.i64 3) Kp w K) (fun t34 w =>  -- law.go:15
  oPick Tryd.prog t30 t34 (Go.Value.bool Bool.false) Kp w fun t35 w =>  -- law.go:15
  oG (isB t35 true) (fun K => oLoad Tryd.prog 35 t1 Kp w K) (fun t37 w =>  -- law.go:15
  oG (isB t35 true) (fun K => oCall Tryd.prog 46 [t37] Kp w K) (fun t38 w =>  -- law.go:15
  oG (isB t35 true) (fun K => oBin Tryd.prog Go.BinOp.eql 3 (Go.Operand.tmp 38) (Go.Operand.const (Go.Value.int Go.IntKind.i64 7)) t38 (Go.Value.int Go.IntKind.i64 7) Kp w K) (fun t39 w =>  -- law.go:15
  oPick Tryd.prog t35 t39 (Go.Value.bool Bool.false) Kp w fun t40 w =>  -- law.go:15
  oG (isB t40 true) (fun K => oLoad Tryd.prog 35 t1 Kp w K) (fun t42 w =>  -- law.go:15
  oG (isB t40 true) (fun K => oLoad Tryd.prog 35 t1 Kp w K) (fun t43 w =>  -- law.go:15
  oG (isB t40 true) (fun K => oCall Tryd.prog 28 [t42, t43] Kp w K) (fun t44 w =>  -- law.go:15
  oPick Tryd.prog t40 t44 (Go.Value.bool Bool.false) Kp w fun t45 w =>  -- law.go:15
  oG (isB t45 true) (fun K => oFA Tryd.prog 35 t1 2 Kp w K) (fun t47 w =>  -- law.go:15
  oG (isB t45 true) (fun K => oLoad Tryd.prog 33 t47 Kp w K) (fun t48 w =>  -- law.go:15
  oG (isB t45 true) (fun K => oIA Tryd.prog 33 t48 (Go.Value.int Go.IntKind.i64 2) Kp w K) (fun t49 w =>  -- law.go:15
  oG (isB t45 true) (fun K => oFA Tryd.prog 35 t49 0 Kp w K) (fun t50 w =>  -- law.go:15
  oG (isB t45 true) (fun K => oLoad Tryd.prog 25 t50 Kp w K) (fun t51 w =>  -- law.go:15
  oG (isB t45 true) (fun K => oCall Tryd.prog 22 [t51] Kp w K) (fun t52 w =>  -- law.go:15
  oG (isB t45 true) (fun K => oBin Tryd.prog Go.BinOp.eql 28 (Go.Operand.tmp 52) (Go.Operand.const (Go.Value.int Go.IntKind.i64 0)) t52 (Go.Value.int Go.IntKind.i64 0) Kp w K) (fun t53 w =>  -- law.go:15
  oPick Tryd.prog t45 t53 (Go.Value.bool Bool.false) Kp w fun t54 w =>  -- law.go:15
  oG (isB t54 true) (fun K => oBuild Tryd.prog 35 [] Kp w K) (fun t56 w =>  -- law.go:15
  oG (isB t54 true) (fun K => oCall Tryd.prog 39 [t56] Kp w K) (fun t57 w =>  -- law.go:15
  oG (isB t54 true) (fun K => oBin Tryd.prog Go.BinOp.eql 28 (Go.Operand.tmp 57) (Go.Operand.const (Go.Value.int Go.IntKind.i64 1)) t57 (Go.Value.int Go.IntKind.i64 1) Kp w K) (fun t58 w =>  -- law.go:15
  oPick Tryd.prog t54 t58 (Go.Value.bool Bool.false) Kp w fun t59 w =>  -- law.go:15
  R t59 w) w) w) w) w) w) w) w) w) w) w) w) w) w) w) w) w) w) w) w) w) w) w) w) w
def a_trommellaw04_fixed : Ann := ⟨[], [], [], []⟩
theorem e_trommellaw04_fixed (R : VK) (Kp : PK) (w : World) : W Tryd.prog a_trommellaw04_fixed Kp (bodyOf Tryd.f20) (retQ Tryd.prog Tryd.f20.results.toList R) (env0 []) w = n_trommellaw04_fixed R Kp  w := by kernel_rfl
theorem c_trommellaw04_fixed {R : VK} {Kp : PK} {w : World} (h : n_trommellaw04_fixed R Kp  w) : Calls Tryd.prog 20 #[] w (callR R Kp) :=
  calls_of_N (an := a_trommellaw04_fixed) (args := []) mixed_N1 Tryd.func20 (by kernel_rfl) (by kernel_rfl) (by kernel_rfl) (e_trommellaw04_fixed R Kp  w) h

/-- trommel/trommelmem.Pred -/
def n_trommelmem_Pred (R : VK) (Kp : PK) (p0 : Value) (w : World) : Prop :=
  oBox Tryd.prog 25 p0 Kp w fun t1 w =>  -- mem.go:82
  oAlloc Tryd.prog 25 Kp w fun t2 w =>  -- mem.go:82
  oFA Tryd.prog 25 t1 2 Kp w fun t3 w =>  -- mem.go:83
  oLoad Tryd.prog 22 t3 Kp w fun t4 w =>  -- mem.go:83
  oCall Tryd.prog 31 [t4] Kp w fun t5 w =>  -- mem.go:83
  oFA Tryd.prog 25 t1 2 Kp w fun t6 w =>  -- mem.go:83
  oStore Tryd.prog 22 t6 t5 Kp w fun _t w =>  -- mem.go:83
  oFA Tryd.prog 25 t1 3 Kp w fun t7 w =>  -- mem.go:84
  oLoad Tryd.prog 23 t7 Kp w fun t8 w =>  -- mem.go:84
  oCall Tryd.prog 32 [t8] Kp w fun t9 w =>  -- mem.go:84
  oFA Tryd.prog 25 t1 3 Kp w fun t10 w =>  -- mem.go:84
  oStore Tryd.prog 23 t10 t9 Kp w fun _t w =>  -- mem.go:84
  oLoad Tryd.prog 25 t1 Kp w fun t11 w =>  -- mem.go:85
  oStore Tryd.prog 25 t2 t11 Kp w fun _t w =>  -- mem.go:85
  oRL Tryd.prog 25 t2 w fun r0 =>
  R r0 w
def a_trommelmem_Pred : Ann := ⟨[], [], [], []⟩
theorem e_trommelmem_Pred (R : VK) (Kp : PK) (p0 : Value) (w : World) : W Tryd.prog a_trommelmem_Pred Kp (bodyOf Tryd.f21) (retQ Tryd.prog Tryd.f21.results.toList R) (env0 [p0]) w = n_trommelmem_Pred R Kp p0 w := by kernel_rfl
theorem c_trommelmem_Pred {R : VK} {Kp : PK} {p0 : Value} {w : World} (h : n_trommelmem_Pred R Kp p0 w) : Calls Tryd.prog 21 #[p0] w (callR R Kp) :=
  calls_of_N (an := a_trommelmem_Pred) (args := [p0]) mixed_N1 Tryd.func21 (by kernel_rfl) (by kernel_rfl) (by kernel_rfl) (e_trommelmem_Pred R Kp p0 w) h

/-- trommel/tree.Pred -/
def n_tree_Pred (R : VK) (Kp : PK) (p0 : Value) (w : World) : Prop :=
  oBox Tryd.prog 25 p0 Kp w fun t1 w =>  -- tree.go:32
  oFA Tryd.prog 25 t1 2 noP w.drew fun t6 w =>  -- tree.go:33
  oLD Tryd.prog 22 t6 w fun t7 w =>  -- tree.go:33
  oD (lenOk [t7]) (oBI Tryd.prog Go.Builtin.len #[22] 3 [false] [t7] noP w (fun t8 w =>  -- tree.go:33
  oFA Tryd.prog 25 t1 3 noP w fun t9 w =>  -- tree.go:33
  oLD Tryd.prog 23 t9 w fun t10 w =>  -- tree.go:33
  oD (lenOk [t10]) (oBI Tryd.prog Go.Builtin.len #[23] 3 [false] [t10] noP w (fun t11 w =>  -- tree.go:33
  oFA Tryd.prog 25 t1 4 Kp w fun t12 w =>  -- tree.go:34
  oLoad Tryd.prog 3 t12 Kp w fun t13 w =>  -- tree.go:34
  oBin Tryd.prog Go.BinOp.eql 3 (Go.Operand.tmp 13) (Go.Operand.const (Go.Value.int Go.IntKind.i64 0)) t13 (Go.Value.int Go.IntKind.i64 0) Kp w fun t14 w =>  -- tree.go:34
  oG (isB t14 true) (fun K => oFA Tryd.prog 25 t1 5 Kp w K) (fun t16 w =>  -- tree.go:34
  oG (isB t14 true) (fun K => oLoad Tryd.prog 3 t16 Kp w K) (fun t17 w =>  -- tree.go:34
  oG (isB t14 true) (fun K => oBin Tryd.prog Go.BinOp.eql 3 (Go.Operand.tmp 17) (Go.Operand.const (Go.Value.int Go.IntKind.i64 0)) t17 (Go.Value.int Go.IntKind.i64 0) Kp w K) (fun t18 w =>  -- tree.go:34
  oPick Tryd.prog t14 t18 (Go.Value.bool Bool.false) Kp w fun t19 w =>  -- tree.go:34
  oFA Tryd.prog 25 t1 1 Kp w fun t20 w =>  -- tree.go:35
  oLoad Tryd.prog 9 t20 Kp w fun t21 w =>  -- tree.go:35
  oCall Tryd.prog 70 [t21] Kp w fun t22 w =>  -- tree.go:35
  oUn Tryd.prog Go.UnOp.not t22 Kp w fun t23 w =>  -- tree.go:35
  oG (isB t23 false) (fun K => oFA Tryd.prog 25 t1 2 Kp w K) (fun t25 w =>  -- tree.go:35
  oG (isB t23 false) (fun K => oLoad Tryd.prog 22 t25 Kp w K) (fun t26 w =>  -- tree.go:35
  oG (isB t23 false) (fun K => oCall Tryd.prog 71 [t26, (Go.Value.func (Go.Fn.func 72) #[] #[])] Kp w K) (fun t27 w =>  -- tree.go:35
  oG (isB t23 false) (fun K => oUn Tryd.prog Go.UnOp.not t27 Kp w K) (fun t28 w =>  -- tree.go:35
  oPick Tryd.prog t23 (Go.Value.bool Bool.true) t28 Kp w fun t29 w =>  -- tree.go:35
  oG (isB t29 false) (fun K => oFA Tryd.prog 25 t1 3 Kp w K) (fun t31 w =>  -- tree.go:35
  oG (isB t29 false) (fun K => oLoad Tryd.prog 23 t31 Kp w K) (fun t32 w =>  -- tree.go:35
  oG (isB t29 false) (fun K => oCall Tryd.prog 73 [t32, (Go.Value.func (Go.Fn.func 74) #[] #[])] Kp w K) (fun t33 w =>  -- tree.go:35
  oG (isB t29 false) (fun K => oUn Tryd.prog Go.UnOp.not t33 Kp w K) (fun t34 w =>  -- tree.go:35
  oPick Tryd.prog t29 (Go.Value.bool Bool.true) t34 Kp w fun t35 w =>  -- tree.go:35
  oCond t35 (
   R (Go.Value.int Go.IntKind.i64 1) w) (
   oFA Tryd.prog 25 t1 0 Kp w fun t36 w =>  -- tree.go:38
   oLoad Tryd.prog 3 t36 Kp w fun t37 w =>  -- tree.go:38
   oBin Tryd.prog Go.BinOp.eql 3 (Go.Operand.tmp 37) (Go.Operand.const (Go.Value.int Go.IntKind.i64 1)) t37 (Go.Value.int Go.IntKind.i64 1) Kp w fun t39 w =>  -- tree.go:39
   oCond t39 (
    oBin Tryd.prog Go.BinOp.gtr 3 (Go.Operand.tmp 40) (Go.Operand.const (Go.Value.int Go.IntKind.i64 0)) t8 (Go.Value.int Go.IntKind.i64 0) Kp w fun t41 w =>  -- tree.go:40
    oBin Tryd.prog Go.BinOp.leq 3 (Go.Operand.tmp 42) (Go.Operand.const (Go.Value.int Go.IntKind.i64 64)) t8 (Go.Value.int Go.IntKind.i64 64) Kp w fun t43 w =>  -- tree.go:40
    oBin Tryd.prog Go.BinOp.eql 3 (Go.Operand.tmp 44) (Go.Operand.const (Go.Value.int Go.IntKind.i64 0)) t11 (Go.Value.int Go.IntKind.i64 0) Kp w fun t45 w =>  -- tree.go:40
    oBuildS Tryd.prog 121 4 [(0, t41), (1, t43), (2, t45), (3, t19)] Kp w fun t47 w =>  -- tree.go:40
    oCall Tryd.prog 75 [t47] Kp w fun t48 w =>  -- tree.go:40
    R t48 w) (
    oBin Tryd.prog Go.BinOp.eql 3 (Go.Operand.tmp 37) (Go.Operand.const (Go.Value.int Go.IntKind.i64 2)) t37 (Go.Value.int Go.IntKind.i64 2) Kp w fun t50 w =>  -- tree.go:41
    oCond t50 (
     oBin Tryd.prog Go.BinOp.gtr 3 (Go.Operand.tmp 51) (Go.Operand.const (Go.Value.int Go.IntKind.i64 0)) t11 (Go.Value.int Go.IntKind.i64 0) Kp w fun t52 w =>  -- tree.go:42
     oBin Tryd.prog Go.BinOp.leq 3 (Go.Operand.tmp 53) (Go.Operand.const (Go.Value.int Go.IntKind.i64 64)) t11 (Go.Value.int Go.IntKind.i64 64) Kp w fun t54 w =>  -- tree.go:42
     oBin Tryd.prog Go.BinOp.eql 3 (Go.Operand.tmp 55) (Go.Operand.const (Go.Value.int Go.IntKind.i64 0)) t8 (Go.Value.int Go.IntKind.i64 0) Kp w fun t56 w =>  -- tree.go:42
     oBuildS Tryd.prog 121 4 [(0, t52), (1, t54), (2, t56), (3, t19)] Kp w fun t58 w =>  -- tree.go:42
     oCall Tryd.prog 75 [t58] Kp w fun t59 w =>  -- tree.go:42
     R t59 w) (
     oBin Tryd.prog Go.BinOp.eql 3 (Go.Operand.tmp 37) (Go.Operand.const (Go.Value.int Go.IntKind.i64 3)) t37 (Go.Value.int Go.IntKind.i64 3) Kp w fun t61 w =>  -- tree.go:43
     oCond t61 (
      ∃ S1 : World → Prop, S1 w.drew ∧
      oD (twin t8 (Go.Value.int Go.IntKind.i64 0)) (oBin Tryd.prog Go.BinOp.eql 3 (Go.Operand.tmp 62) (Go.Operand.const (Go.Value.int Go.IntKind.i64 0)) t8 (Go.Value.int Go.IntKind.i64 0) noP w.drew (fun t63 w =>  -- tree.go:44
      oD (twin t11 (Go.Value.int Go.IntKind.i64 0)) (oBin Tryd.prog Go.BinOp.eql 3 (Go.Operand.tmp 64) (Go.Operand.const (Go.Value.int Go.IntKind.i64 0)) t11 (Go.Value.int Go.IntKind.i64 0) noP w (fun t65 w =>  -- tree.go:44
      oFA Tryd.prog 25 t1 4 noP w fun t66 w =>  -- tree.go:44
      oHL Tryd.prog S1 3 t66 w fun t67 w =>  -- tree.go:44
      oCall Tryd.prog 72 [t67] noP w fun t68 w => S1 w ∧  -- tree.go:44
      oFA Tryd.prog 25 t1 5 noP w fun t69 w =>  -- tree.go:44
      oHL Tryd.prog S1 3 t69 w fun t70 w =>  -- tree.go:44
      oCall Tryd.prog 72 [t70] noP w fun t71 w =>  -- tree.go:44
      oBuildS Tryd.prog 121 4 [(0, t63), (1, t65), (2, t68), (3, t71)] noP w fun t72 w =>  -- tree.go:44
      oCall Tryd.prog 75 [t72] noP w fun t73 w =>  -- tree.go:44
      R t73 w))))) (
      oBin Tryd.prog Go.BinOp.eql 3 (Go.Operand.tmp 37) (Go.Operand.const (Go.Value.int Go.IntKind.i64 4)) t37 (Go.Value.int Go.IntKind.i64 4) Kp w fun t75 w =>  -- tree.go:45
      oCond t75 (
       oBin Tryd.prog Go.BinOp.eql 3 (Go.Operand.tmp 76) (Go.Operand.const (Go.Value.int Go.IntKind.i64 1)) t11 (Go.Value.int Go.IntKind.i64 1) Kp w fun t77 w =>  -- tree.go:46
       oBin Tryd.prog Go.BinOp.eql 3 (Go.Operand.tmp 78) (Go.Operand.const (Go.Value.int Go.IntKind.i64 0)) t8 (Go.Value.int Go.IntKind.i64 0) Kp w fun t79 w =>  -- tree.go:46
       oBuildS Tryd.prog 121 3 [(0, t77), (1, t79), (2, t19)] Kp w fun t81 w =>  -- tree.go:46
       oCall Tryd.prog 75 [t81] Kp w fun t82 w =>  -- tree.go:46
       R t82 w) (
       R (Go.Value.int Go.IntKind.i64 1) w)))))) w) w) w) w) w) w) w) w) w) w) w))))
def a_tree_Pred : Ann := ⟨[], [], [], []⟩
theorem e_tree_Pred (R : VK) (Kp : PK) (p0 : Value) (w : World) : W Tryd.prog a_tree_Pred Kp (bodyOf Tryd.f22) (retQ Tryd.prog Tryd.f22.results.toList R) (env0 [p0]) w = n_tree_Pred R Kp p0 w := by kernel_rfl
theorem c_tree_Pred {R : VK} {Kp : PK} {p0 : Value} {w : World} (h : n_tree_Pred R Kp p0 w) : Calls Tryd.prog 22 #[p0] w (callR R Kp) :=
  calls_of_N (an := a_tree_Pred) (args := [p0]) mixed_N1 Tryd.func22 (by kernel_rfl) (by kernel_rfl) (by kernel_rfl) (e_tree_Pred R Kp p0 w) h

/-- trommel/trommellaw04.form -/
def n_trommellaw04_form (R : VK) (Kp : PK) (p0 : Value) (w : World) : Prop :=
  oCond p0 (
   R (Go.Value.int Go.IntKind.i64 0) w) (
   R (Go.Value.int Go.IntKind.i64 1) w)
def a_trommellaw04_form : Ann := ⟨[], [], [], []⟩
theorem e_trommellaw04_form (R : VK) (Kp : PK) (p0 : Value) (w : World) : W Tryd.prog a_trommellaw04_form Kp (bodyOf Tryd.f23) (retQ Tryd.prog Tryd.f23.results.toList R) (env0 [p0]) w = n_trommellaw04_form R Kp p0 w := by kernel_rfl
theorem c_trommellaw04_form {R : VK} {Kp : PK} {p0 : Value} {w : World} (h : n_trommellaw04_form R Kp p0 w) : Calls Tryd.prog 23 #[p0] w (callR R Kp) :=
  calls_of_N (an := a_trommellaw04_form) (args := [p0]) mixed_N1 Tryd.func23 (by kernel_rfl) (by kernel_rfl) (by kernel_rfl) (e_trommellaw04_form R Kp p0 w) h

/-- trommel/trommelref04.Pred -/
def n_trommelref04_Pred (R : VK) (Kp : PK) (p0 : Value) (w : World) : Prop :=
  oBox Tryd.prog 25 p0 Kp w fun t1 w =>  -- ref.go:13
  oFA Tryd.prog 25 t1 1 Kp w fun t7 w =>  -- ref.go:14
  oLoad Tryd.prog 9 t7 Kp w fun t8 w =>  -- ref.go:14
  oCall Tryd.prog 76 [t8] Kp w fun t9 w =>  -- ref.go:14
  oUn Tryd.prog Go.UnOp.not t9 Kp w fun t10 w =>  -- ref.go:14
  oCond t10 (
   R (Go.Value.bool Bool.false) w) (
   nLoop [3] [(Go.Value.int Go.IntKind.i64 0)] w (fun f1 ag1 w =>  -- 3=i
    oFA Tryd.prog 25 t1 2 Kp w fun t12 w =>  -- ref.go:17
    oLoad Tryd.prog 22 t12 Kp w fun t13 w =>  -- ref.go:17
    oBI Tryd.prog Go.Builtin.len #[22] 3 [false] [t13] Kp w fun t14 w =>  -- ref.go:17
    oBin Tryd.prog Go.BinOp.lss 3 (Go.Operand.tmp 11) (Go.Operand.tmp 14) (f1 3) t14 Kp w fun t15 w =>  -- ref.go:17
    oCond t15 (
     oFA Tryd.prog 25 t1 2 Kp w fun t18 w =>  -- ref.go:18
     oLoad Tryd.prog 22 t18 Kp w fun t19 w =>  -- ref.go:18
     oIA Tryd.prog 22 t19 (f1 3) Kp w fun t21 w =>  -- ref.go:18
     oLoad Tryd.prog 3 t21 Kp w fun t22 w =>  -- ref.go:18
     oCall Tryd.prog 77 [t22] Kp w fun t23 w =>  -- ref.go:18
     oUn Tryd.prog Go.UnOp.not t23 Kp w fun t24 w =>  -- ref.go:18
     oCond t24 (
      R (Go.Value.bool Bool.false) w) (
      oBin Tryd.prog Go.BinOp.add 3 (Go.Operand.tmp 16) (Go.Operand.const (Go.Value.int Go.IntKind.i64 1)) (f1 3) (Go.Value.int Go.IntKind.i64 1) Kp w fun t17 w =>  -- ref.go:17
      ag1 [t17] w)) (
     nLoop [4] [(Go.Value.int Go.IntKind.i64 0)] w (fun f2 ag2 w =>  -- 4=i
      oFA Tryd.prog 25 t1 3 Kp w fun t26 w =>  -- ref.go:22
      oLoad Tryd.prog 23 t26 Kp w fun t27 w =>  -- ref.go:22
      oBI Tryd.prog Go.Builtin.len #[23] 3 [false] [t27] Kp w fun t28 w =>  -- ref.go:22
      oBin Tryd.prog Go.BinOp.lss 3 (Go.Operand.tmp 25) (Go.Operand.tmp 28) (f2 4) t28 Kp w fun t29 w =>  -- ref.go:22
      oCond t29 (
       oFA Tryd.prog 25 t1 3 Kp w fun t32 w =>  -- ref.go:23
       oLoad Tryd.prog 23 t32 Kp w fun t33 w =>  -- ref.go:23
       oIA Tryd.prog 23 t33 (f2 4) Kp w fun t35 w =>  -- ref.go:23
       oLoad Tryd.prog 9 t35 Kp w fun t36 w =>  -- ref.go:23
       oBI Tryd.prog Go.Builtin.len #[9] 3 [false] [t36] Kp w fun t37 w =>  -- ref.go:23
       oBin Tryd.prog Go.BinOp.gtr 3 (Go.Operand.tmp 37) (Go.Operand.const (Go.Value.int Go.IntKind.i64 64)) t37 (Go.Value.int Go.IntKind.i64 64) Kp w fun t38 w =>  -- ref.go:23
       oCond t38 (
        R (Go.Value.bool Bool.false) w) (
        oBin Tryd.prog Go.BinOp.add 3 (Go.Operand.tmp 30) (Go.Operand.const (Go.Value.int Go.IntKind.i64 1)) (f2 4) (Go.Value.int Go.IntKind.i64 1) Kp w fun t31 w =>  -- ref.go:22
        ag2 [t31] w)) (
       oFA Tryd.prog 25 t1 2 noP w.drew fun t39 w =>  -- ref.go:27
       oLD Tryd.prog 22 t39 w fun t40 w =>  -- ref.go:27
       oD (lenOk [t40]) (oBI Tryd.prog Go.Builtin.len #[22] 3 [false] [t40] noP w (fun t41 w =>  -- ref.go:27
       oFA Tryd.prog 25 t1 3 noP w fun t42 w =>  -- ref.go:27
       oLD Tryd.prog 23 t42 w fun t43 w =>  -- ref.go:27
       oD (lenOk [t43]) (oBI Tryd.prog Go.Builtin.len #[23] 3 [false] [t43] noP w (fun t44 w =>  -- ref.go:27
       oFA Tryd.prog 25 t1 0 Kp w fun t45 w =>  -- ref.go:28
       oLoad Tryd.prog 3 t45 Kp w fun t46 w =>  -- ref.go:28
       oBin Tryd.prog Go.BinOp.eql 3 (Go.Operand.tmp 46) (Go.Operand.const (Go.Value.int Go.IntKind.i64 1)) t46 (Go.Value.int Go.IntKind.i64 1) Kp w fun t48 w =>  -- ref.go:29
       oCond t48 (
        oBin Tryd.prog Go.BinOp.geq 3 (Go.Operand.tmp 49) (Go.Operand.const (Go.Value.int Go.IntKind.i64 1)) t41 (Go.Value.int Go.IntKind.i64 1) Kp w fun t50 w =>  -- ref.go:30
        oG (isB t50 true) (fun K => K t41 w) (fun t52 w =>  -- ref.go:30
        oG (isB t50 true) (fun K => oBin Tryd.prog Go.BinOp.leq 3 (Go.Operand.tmp 52) (Go.Operand.const (Go.Value.int Go.IntKind.i64 64)) t52 (Go.Value.int Go.IntKind.i64 64) Kp w K) (fun t53 w =>  -- ref.go:30
        oPick Tryd.prog t50 t53 (Go.Value.bool Bool.false) Kp w fun t54 w =>  -- ref.go:30
        oG (isB t54 true) (fun K => K t44 w) (fun t56 w =>  -- ref.go:30
        oG (isB t54 true) (fun K => oBin Tryd.prog Go.BinOp.eql 3 (Go.Operand.tmp 56) (Go.Operand.const (Go.Value.int Go.IntKind.i64 0)) t56 (Go.Value.int Go.IntKind.i64 0) Kp w K) (fun t57 w =>  -- ref.go:30
        oPick Tryd.prog t54 t57 (Go.Value.bool Bool.false) Kp w fun t58 w =>  -- ref.go:30
        oG (isB t58 true) (fun K => oFA Tryd.prog 25 t1 4 Kp w K) (fun t60 w =>  -- ref.go:30
        oG (isB t58 true) (fun K => oLoad Tryd.prog 3 t60 Kp w K) (fun t61 w =>  -- ref.go:30
        oG (isB t58 true) (fun K => oBin Tryd.prog Go.BinOp.eql 3 (Go.Operand.tmp 61) (Go.Operand.const (Go.Value.int Go.IntKind.i64 0)) t61 (Go.Value.int Go.IntKind.i64 0) Kp w K) (fun t62 w =>  -- ref.go:30
        oPick Tryd.prog t58 t62 (Go.Value.bool Bool.false) Kp w fun t63 w =>  -- ref.go:30
        oG (isB t63 true) (fun K => oFA Tryd.prog 25 t1 5 Kp w K) (fun t65 w =>  -- ref.go:30
        oG (isB t63 true) (fun K => oLoad Tryd.prog 3 t65 Kp w K) (fun t66 w =>  -- ref.go:30
        oG (isB t63 true) (fun K => oBin Tryd.prog Go.BinOp.eql 3 (Go.Operand.tmp 66) (Go.Operand.const (Go.Value.int Go.IntKind.i64 0)) t66 (Go.Value.int Go.IntKind.i64 0) Kp w K) (fun t67 w =>  -- ref.go:30
        oPick Tryd.prog t63 t67 (Go.Value.bool Bool.false) Kp w fun t68 w =>  -- ref.go:30
        R t68 w) w) w) w) w) w) w) w) w) w) w) (
        oBin Tryd.prog Go.BinOp.eql 3 (Go.Operand.tmp 46) (Go.Operand.const (Go.Value.int Go.IntKind.i64 2)) t46 (Go.Value.int Go.IntKind.i64 2) Kp w fun t70 w =>  -- ref.go:31
        oCond t70 (
         oBin Tryd.prog Go.BinOp.geq 3 (Go.Operand.tmp 71) (Go.Operand.const (Go.Value.int Go.IntKind.i64 1)) t44 (Go.Value.int Go.IntKind.i64 1) Kp w fun t72 w =>  -- ref.go:32
         oG (isB t72 true) (fun K => K t44 w) (fun t74 w =>  -- ref.go:32
         oG (isB t72 true) (fun K => oBin Tryd.prog Go.BinOp.leq 3 (Go.Operand.tmp 74) (Go.Operand.const (Go.Value.int Go.IntKind.i64 64)) t74 (Go.Value.int Go.IntKind.i64 64) Kp w K) (fun t75 w =>  -- ref.go:32
         oPick Tryd.prog t72 t75 (Go.Value.bool Bool.false) Kp w fun t76 w =>  -- ref.go:32
         oG (isB t76 true) (fun K => K t41 w) (fun t78 w =>  -- ref.go:32
         oG (isB t76 true) (fun K => oBin Tryd.prog Go.BinOp.eql 3 (Go.Operand.tmp 78) (Go.Operand.const (Go.Value.int Go.IntKind.i64 0)) t78 (Go.Value.int Go.IntKind.i64 0) Kp w K) (fun t79 w =>  -- ref.go:32
         oPick Tryd.prog t76 t79 (Go.Value.bool Bool.false) Kp w fun t80 w =>  -- ref.go:32
         oG (isB t80 true) (fun K => oFA Tryd.prog 25 t1 4 Kp w K) (fun t82 w =>  -- ref.go:32
         oG (isB t80 true) (fun K => oLoad Tryd.prog 3 t82 Kp w K) (fun t83 w =>  -- ref.go:32
         oG (isB t80 true) (fun K => oBin Tryd.prog Go.BinOp.eql 3 (Go.Operand.tmp 83) (Go.Operand.const (Go.Value.int Go.IntKind.i64 0)) t83 (Go.Value.int Go.IntKind.i64 0) Kp w K) (fun t84 w =>  -- ref.go:32
         oPick Tryd.prog t80 t84 (Go.Value.bool Bool.false) Kp w fun t85 w =>  -- ref.go:32
         oG (isB t85 true) (fun K => oFA Tryd.prog 25 t1 5 Kp w K) (fun t87 w =>  -- ref.go:32
         oG (isB t85 true) (fun K => oLoad Tryd.prog 3 t87 Kp w K) (fun t88 w =>  -- ref.go:32
         oG (isB t85 true) (fun K => oBin Tryd.prog Go.BinOp.eql 3 (Go.Operand.tmp 88) (Go.Operand.const (Go.Value.int Go.IntKind.i64 0)) t88 (Go.Value.int Go.IntKind.i64 0) Kp w K) (fun t89 w =>  -- ref.go:32
         oPick Tryd.prog t85 t89 (Go.Value.bool Bool.false) Kp w fun t90 w =>  -- ref.go:32
         R t90 w) w) w) w) w) w) w) w) w) w) w) (
         oBin Tryd.prog Go.BinOp.eql 3 (Go.Operand.tmp 46) (Go.Operand.const (Go.Value.int Go.IntKind.i64 3)) t46 (Go.Value.int Go.IntKind.i64 3) Kp w fun t92 w =>  -- ref.go:33
         oCond t92 (
          oBin Tryd.prog Go.BinOp.eql 3 (Go.Operand.tmp 93) (Go.Operand.const (Go.Value.int Go.IntKind.i64 0)) t41 (Go.Value.int Go.IntKind.i64 0) Kp w fun t94 w =>  -- ref.go:34
          oG (isB t94 true) (fun K => K t44 w) (fun t96 w =>  -- ref.go:34
          oG (isB t94 true) (fun K => oBin Tryd.prog Go.BinOp.eql 3 (Go.Operand.tmp 96) (Go.Operand.const (Go.Value.int Go.IntKind.i64 0)) t96 (Go.Value.int Go.IntKind.i64 0) Kp w K) (fun t97 w =>  -- ref.go:34
          oPick Tryd.prog t94 t97 (Go.Value.bool Bool.false) Kp w fun t98 w =>  -- ref.go:34
          oG (isB t98 true) (fun K => oFA Tryd.prog 25 t1 4 Kp w K) (fun t100 w =>  -- ref.go:34
          oG (isB t98 true) (fun K => oLoad Tryd.prog 3 t100 Kp w K) (fun t101 w =>  -- ref.go:34
          oG (isB t98 true) (fun K => oCall Tryd.prog 77 [t101] Kp w K) (fun t102 w =>  -- ref.go:34
          oPick Tryd.prog t98 t102 (Go.Value.bool Bool.false) Kp w fun t103 w =>  -- ref.go:34
          oG (isB t103 true) (fun K => oFA Tryd.prog 25 t1 5 Kp w K) (fun t105 w =>  -- ref.go:34
          oG (isB t103 true) (fun K => oLoad Tryd.prog 3 t105 Kp w K) (fun t106 w =>  -- ref.go:34
          oG (isB t103 true) (fun K => oCall Tryd.prog 77 [t106] Kp w K) (fun t107 w =>  -- ref.go:34
          oPick Tryd.prog t103 t107 (Go.Value.bool Bool.false) Kp w fun t108 w =>  -- ref.go:34
          R t108 w) w) w) w) w) w) w) w) w) (
          oBin Tryd.prog Go.BinOp.eql 3 (Go.Operand.tmp 46) (Go.Operand.const (Go.Value.int Go.IntKind.i64 4)) t46 (Go.Value.int Go.IntKind.i64 4) Kp w fun t110 w =>  -- ref.go:35
          oCond t110 (
           oBin Tryd.prog Go.BinOp.eql 3 (Go.Operand.tmp 111) (Go.Operand.const (Go.Value.int Go.IntKind.i64 1)) t44 (Go.Value.int Go.IntKind.i64 1) Kp w fun t112 w =>  -- ref.go:36
           oG (isB t112 true) (fun K => K t41 w) (fun t114 w =>  -- ref.go:36
           oG (isB t112 true) (fun K => oBin Tryd.prog Go.BinOp.eql 3 (Go.Operand.tmp 114) (Go.Operand.const (Go.Value.int Go.IntKind.i64 0)) t114 (Go.Value.int Go.IntKind.i64 0) Kp w K) (fun t115 w =>  -- ref.go:36
           oPick Tryd.prog t112 t115 (Go.Value.bool Bool.false) Kp w fun t116 w =>  -- ref.go:36
           oG (isB t116 true) (fun K => oFA Tryd.prog 25 t1 4 Kp w K) (fun t118 w =>  -- ref.go:36
           oG (isB t116 true) (fun K => oLoad Tryd.prog 3 t118 Kp w K) (fun t119 w =>  -- ref.go:36
           oG (isB t116 true) (fun K => oBin Tryd.prog Go.BinOp.eql 3 (Go.Operand.tmp 119) (Go.Operand.const (Go.Value.int Go.IntKind.i64 0)) t119 (Go.Value.int Go.IntKind.i64 0) Kp w K) (fun t120 w =>  -- ref.go:36
           oPick Tryd.prog t116 t120 (Go.Value.bool Bool.false) Kp w fun t121 w =>  -- ref.go:36
           oG (isB t121 true) (fun K => oFA Tryd.prog 25 t1 5 Kp w K) (fun t123 w =>  -- ref.go:36
           oG (isB t121 true) (fun K => oLoad Tryd.prog 3 t123 Kp w K) (fun t124 w =>  -- ref.go:36
           oG (isB t121 true) (fun K => oBin Tryd.prog Go.BinOp.eql 3 (Go.Operand.tmp 124) (Go.Operand.const (Go.Value.int Go.IntKind.i64 0)) t124 (Go.Value.int Go.IntKind.i64 0) Kp w K) (fun t125 w =>  -- ref.go:36
           oPick Tryd.prog t121 t125 (Go.Value.bool Bool.false) Kp w fun t126 w =>  -- ref.go:36
           R t126 w) w) w) w) w) w) w) w) w) (
           R (Go.Value.bool Bool.false) w)))))))))))))
def a_trommelref04_Pred : Ann := ⟨[(4, [3], 33552396), (9, [4], 549722259476)], [], [], []⟩
theorem e_trommelref04_Pred (R : VK) (Kp : PK) (p0 : Value) (w : World) : W Tryd.prog a_trommelref04_Pred Kp (bodyOf Tryd.f24) (retQ Tryd.prog Tryd.f24.results.toList R) (env0 [p0]) w = n_trommelref04_Pred R Kp p0 w := by kernel_rfl
theorem c_trommelref04_Pred {R : VK} {Kp : PK} {p0 : Value} {w : World} (h : n_trommelref04_Pred R Kp p0 w) : Calls Tryd.prog 24 #[p0] w (callR R Kp) :=
  calls_of_N (an := a_trommelref04_Pred) (args := [p0]) mixed_N1 Tryd.func24 (by kernel_rfl) (by kernel_rfl) (by kernel_rfl) (e_trommelref04_Pred R Kp p0 w) h

/-- trommel/trommelmem.KeptPred -/
def n_trommelmem_KeptPred (R : VK) (Kp : PK) (p0 p1 : Value) (w : World) : Prop :=
  oBox Tryd.prog 25 p0 Kp w fun t2 w =>  -- mem.go:115
  oBox Tryd.prog 25 p1 Kp w fun t3 w =>  -- mem.go:115
  oLoad Tryd.prog 25 t2 Kp w fun t5 w =>  -- mem.go:116
  oLoad Tryd.prog 25 t3 Kp w fun t6 w =>  -- mem.go:116
  oCall Tryd.prog 78 [t5, t6] Kp w fun t7 w =>  -- mem.go:116
  oG (isB t7 true) (fun K => oFA Tryd.prog 25 t2 2 Kp w K) (fun t9 w =>  -- mem.go:116
  oG (isB t7 true) (fun K => oLoad Tryd.prog 22 t9 Kp w K) (fun t10 w =>  -- mem.go:116
  oG (isB t7 true) (fun K => oFA Tryd.prog 25 t3 2 Kp w K) (fun t11 w =>  -- mem.go:116
  oG (isB t7 true) (fun K => oLoad Tryd.prog 22 t11 Kp w K) (fun t12 w =>  -- mem.go:116
  oG (isB t7 true) (fun K => oCall Tryd.prog 79 [t10, t12] Kp w K) (fun t13 w =>  -- mem.go:116
  oPick Tryd.prog t7 t13 (Go.Value.bool Bool.false) Kp w fun t14 w =>  -- mem.go:116
  oG (isB t14 true) (fun K => oFA Tryd.prog 25 t2 3 Kp w K) (fun t16 w =>  -- mem.go:116
  oG (isB t14 true) (fun K => oLoad Tryd.prog 23 t16 Kp w K) (fun t17 w =>  -- mem.go:116
  oG (isB t14 true) (fun K => oFA Tryd.prog 25 t3 3 Kp w K) (fun t18 w =>  -- mem.go:116
  oG (isB t14 true) (fun K => oLoad Tryd.prog 23 t18 Kp w K) (fun t19 w =>  -- mem.go:116
  oG (isB t14 true) (fun K => oCall Tryd.prog 80 [t17, t19] Kp w K) (fun t20 w =>  -- mem.go:116
  oPick Tryd.prog t14 t20 (Go.Value.bool Bool.false) Kp w fun t21 w =>  -- mem.go:116
  R t21 w) w) w) w) w) w) w) w) w) w) w
def a_trommelmem_KeptPred : Ann := ⟨[], [], [], []⟩
theorem e_trommelmem_KeptPred (R : VK) (Kp : PK) (p0 p1 : Value) (w : World) : W Tryd.prog a_trommelmem_KeptPred Kp (bodyOf Tryd.f25) (retQ Tryd.prog Tryd.f25.results.toList R) (env0 [p0, p1]) w = n_trommelmem_KeptPred R Kp p0 p1 w := by kernel_rfl
theorem c_trommelmem_KeptPred {R : VK} {Kp : PK} {p0 p1 : Value} {w : World} (h : n_trommelmem_KeptPred R Kp p0 p1 w) : Calls Tryd.prog 25 #[p0, p1] w (callR R Kp) :=
  calls_of_N (an := a_trommelmem_KeptPred) (args := [p0, p1]) mixed_N1 Tryd.func25 (by kernel_rfl) (by kernel_rfl) (by kernel_rfl) (e_trommelmem_KeptPred R Kp p0 p1 w) h

/-- trommel/trommelref04.Few -/
def n_trommelref04_Few (R : VK) (Kp : PK) (p0 : Value) (w : World) : Prop :=
  oCall Tryd.prog 81 [p0, (Go.Value.int Go.IntKind.i64 4001)] Kp w fun t4 w =>  -- ref.go:158
  oBin Tryd.prog Go.BinOp.gtr 3 (Go.Operand.tmp 4) (Go.Operand.const (Go.Value.int Go.IntKind.i64 0)) t4 (Go.Value.int Go.IntKind.i64 0) Kp w fun t5 w =>  -- ref.go:158
  R t5 w
def a_trommelref04_Few : Ann := ⟨[], [], [], []⟩
theorem e_trommelref04_Few (R : VK) (Kp : PK) (p0 : Value) (w : World) : W Tryd.prog a_trommelref04_Few Kp (bodyOf Tryd.f26) (retQ Tryd.prog Tryd.f26.results.toList R) (env0 [p0]) w = n_trommelref04_Few R Kp p0 w := by kernel_rfl
theorem c_trommelref04_Few {R : VK} {Kp : PK} {p0 : Value} {w : World} (h : n_trommelref04_Few R Kp p0 w) : Calls Tryd.prog 26 #[p0] w (callR R Kp) :=
  calls_of_N (an := a_trommelref04_Few) (args := [p0]) mixed_N1 Tryd.func26 (by kernel_rfl) (by kernel_rfl) (by kernel_rfl) (e_trommelref04_Few R Kp p0 w) h

/-- trommel/trommelmem.SameNode -/
def n_trommelmem_SameNode (R : VK) (Kp : PK) (p0 p1 : Value) (w : World) : Prop :=
  oBox Tryd.prog 35 p0 Kp w fun t2 w =>  -- mem.go:102
  oBox Tryd.prog 35 p1 Kp w fun t3 w =>  -- mem.go:102
  oFA Tryd.prog 35 t2 1 Kp w fun t6 w =>  -- mem.go:103
  oLoad Tryd.prog 3 t6 Kp w fun t7 w =>  -- mem.go:103
  oFA Tryd.prog 35 t3 1 Kp w fun t8 w =>  -- mem.go:103
  oLoad Tryd.prog 3 t8 Kp w fun t9 w =>  -- mem.go:103
  oBin Tryd.prog Go.BinOp.neq 3 (Go.Operand.tmp 7) (Go.Operand.tmp 9) t7 t9 Kp w fun t10 w =>  -- mem.go:103
  oG (isB t10 false) (fun K => oFA Tryd.prog 35 t2 2 Kp w K) (fun t12 w =>  -- mem.go:103
  oG (isB t10 false) (fun K => oLoad Tryd.prog 33 t12 Kp w K) (fun t13 w =>  -- mem.go:103
  oG (isB t10 false) (fun K => oBI Tryd.prog Go.Builtin.len #[33] 3 [false] [t13] Kp w K) (fun t14 w =>  -- mem.go:103
  oG (isB t10 false) (fun K => oFA Tryd.prog 35 t3 2 Kp w K) (fun t15 w =>  -- mem.go:103
  oG (isB t10 false) (fun K => oLoad Tryd.prog 33 t15 Kp w K) (fun t16 w =>  -- mem.go:103
  oG (isB t10 false) (fun K => oBI Tryd.prog Go.Builtin.len #[33] 3 [false] [t16] Kp w K) (fun t17 w =>  -- mem.go:103
  oG (isB t10 false) (fun K => oBin Tryd.prog Go.BinOp.neq 3 (Go.Operand.tmp 14) (Go.Operand.tmp 17) t14 t17 Kp w K) (fun t18 w =>  -- mem.go:103
  oPick Tryd.prog t10 (Go.Value.bool Bool.true) t18 Kp w fun t19 w =>  -- mem.go:103
  oG (isB t19 false) (fun K => oFA Tryd.prog 35 t2 0 Kp w K) (fun t21 w =>  -- mem.go:103
  oG (isB t19 false) (fun K => oLoad Tryd.prog 25 t21 Kp w K) (fun t22 w =>  -- mem.go:103
  oG (isB t19 false) (fun K => oFA Tryd.prog 35 t3 0 Kp w K) (fun t23 w =>  -- mem.go:103
  oG (isB t19 false) (fun K => oLoad Tryd.prog 25 t23 Kp w K) (fun t24 w =>  -- mem.go:103
  oG (isB t19 false) (fun K => oCall Tryd.prog 78 [t22, t24] Kp w K) (fun t25 w =>  -- mem.go:103
  oG (isB t19 false) (fun K => oUn Tryd.prog Go.UnOp.not t25 Kp w K) (fun t26 w =>  -- mem.go:103
  oPick Tryd.prog t19 (Go.Value.bool Bool.true) t26 Kp w fun t27 w =>  -- mem.go:103
  oCond t27 (
   R (Go.Value.bool Bool.false) w) (
   oFA Tryd.prog 35 t2 2 Kp w fun t28 w =>  -- mem.go:106
   oLoad Tryd.prog 33 t28 Kp w fun t29 w =>  -- mem.go:106
   oBI Tryd.prog Go.Builtin.len #[33] 3 [false] [t29] Kp w fun t30 w =>  -- mem.go:106
   nLoop [31] [(Go.Value.int Go.IntKind.i64 0)] w (fun f1 ag1 w =>  -- 31=
    oBin Tryd.prog Go.BinOp.lss 3 (Go.Operand.tmp 31) (Go.Operand.tmp 30) (f1 31) t30 Kp w fun t32 w =>  -- mem.go:106
    oCond t32 (
     oFA Tryd.prog 35 t2 2 noP w.drew fun t34 w =>  -- mem.go:107
     oLD Tryd.prog 33 t34 w fun t35 w =>  -- mem.go:107
     oIA Tryd.prog 33 t35 (f1 31) noP w fun t37 w =>  -- mem.go:107
     oLD Tryd.prog 35 t37 w fun t38 w =>  -- mem.go:107
     oFA Tryd.prog 35 t3 2 noP w fun t39 w =>  -- mem.go:107
     oLD Tryd.prog 33 t39 w fun t40 w =>  -- mem.go:107
     oIA Tryd.prog 33 t40 (f1 31) noP w fun t42 w =>  -- mem.go:107
     oLD Tryd.prog 35 t42 w fun t43 w =>  -- mem.go:107
     oCall Tryd.prog 27 [t38, t43] noP w fun t44 w =>  -- mem.go:107
     oUn Tryd.prog Go.UnOp.not t44 noP w fun t45 w =>  -- mem.go:107
     oCond t45 (
      R (Go.Value.bool Bool.false) w) (
      oBin Tryd.prog Go.BinOp.add 3 (Go.Operand.tmp 31) (Go.Operand.const (Go.Value.int Go.IntKind.i64 1)) (f1 31) (Go.Value.int Go.IntKind.i64 1) Kp w fun t46 w =>  -- mem.go:106
      ag1 [t46] w)) (
     R (Go.Value.bool Bool.true) w)))) w) w) w) w) w) w) w) w) w) w) w) w) w
def a_trommelmem_SameNode : Ann := ⟨[(4, [31], 140735340871728)], [], [], []⟩
theorem e_trommelmem_SameNode (R : VK) (Kp : PK) (p0 p1 : Value) (w : World) : W Tryd.prog a_trommelmem_SameNode Kp (bodyOf Tryd.f27) (retQ Tryd.prog Tryd.f27.results.toList R) (env0 [p0, p1]) w = n_trommelmem_SameNode R Kp p0 p1 w := by kernel_rfl
theorem c_trommelmem_SameNode {R : VK} {Kp : PK} {p0 p1 : Value} {w : World} (h : n_trommelmem_SameNode R Kp p0 p1 w) : Calls Tryd.prog 27 #[p0, p1] w (callR R Kp) :=
  calls_of_N (an := a_trommelmem_SameNode) (args := [p0, p1]) mixed_N1 Tryd.func27 (by kernel_rfl) (by kernel_rfl) (by kernel_rfl) (e_trommelmem_SameNode R Kp p0 p1 w) h

/-- trommel/tree.Same -/
def n_tree_Same (R : VK) (Kp : PK) (p0 p1 : Value) (w : World) : Prop :=
  oBox Tryd.prog 35 p0 Kp w fun t2 w =>  -- tree.go:94
  oBox Tryd.prog 35 p1 Kp w fun t3 w =>  -- tree.go:94
  oFA Tryd.prog 35 t2 1 Kp w fun t5 w =>  -- tree.go:95
  oLoad Tryd.prog 3 t5 Kp w fun t6 w =>  -- tree.go:95
  oFA Tryd.prog 35 t3 1 Kp w fun t7 w =>  -- tree.go:95
  oLoad Tryd.prog 3 t7 Kp w fun t8 w =>  -- tree.go:95
  oBin Tryd.prog Go.BinOp.eql 3 (Go.Operand.tmp 6) (Go.Operand.tmp 8) t6 t8 Kp w fun t9 w =>  -- tree.go:95
  oG (isB t9 true) (fun K => oFA Tryd.prog 35 t2 0 Kp w K) (fun t11 w =>  -- tree.go:95
  oG (isB t9 true) (fun K => oLoad Tryd.prog 25 t11 Kp w K) (fun t12 w =>  -- tree.go:95
  oG (isB t9 true) (fun K => oFA Tryd.prog 35 t3 0 Kp w K) (fun t13 w =>  -- tree.go:95
  oG (isB t9 true) (fun K => oLoad Tryd.prog 25 t13 Kp w K) (fun t14 w =>  -- tree.go:95
  oG (isB t9 true) (fun K => oCall Tryd.prog 82 [t12, t14] Kp w K) (fun t15 w =>  -- tree.go:95
  oPick Tryd.prog t9 t15 (Go.Value.bool Bool.false) Kp w fun t16 w =>  -- tree.go:95
  oG (isB t16 true) (fun K => oFA Tryd.prog 35 t2 2 Kp w K) (fun t18 w =>  -- tree.go:95
  oG (isB t16 true) (fun K => oLoad Tryd.prog 33 t18 Kp w K) (fun t19 w =>  -- tree.go:95
  oG (isB t16 true) (fun K => oFA Tryd.prog 35 t3 2 Kp w K) (fun t20 w =>  -- tree.go:95
  oG (isB t16 true) (fun K => oLoad Tryd.prog 33 t20 Kp w K) (fun t21 w =>  -- tree.go:95
  oG (isB t16 true) (fun K => oCall Tryd.prog 83 [t19, t21, (Go.Value.func (Go.Fn.func 28) #[] #[])] Kp w K) (fun t22 w =>  -- tree.go:95
  oPick Tryd.prog t16 t22 (Go.Value.bool Bool.false) Kp w fun t23 w =>  -- tree.go:95
  R t23 w) w) w) w) w) w) w) w) w) w) w
def a_tree_Same : Ann := ⟨[], [], [], []⟩
theorem e_tree_Same (R : VK) (Kp : PK) (p0 p1 : Value) (w : World) : W Tryd.prog a_tree_Same Kp (bodyOf Tryd.f28) (retQ Tryd.prog Tryd.f28.results.toList R) (env0 [p0, p1]) w = n_tree_Same R Kp p0 p1 w := by kernel_rfl
theorem c_tree_Same {R : VK} {Kp : PK} {p0 p1 : Value} {w : World} (h : n_tree_Same R Kp p0 p1 w) : Calls Tryd.prog 28 #[p0, p1] w (callR R Kp) :=
  calls_of_N (an := a_tree_Same) (args := [p0, p1]) mixed_N1 Tryd.func28 (by kernel_rfl) (by kernel_rfl) (by kernel_rfl) (e_tree_Same R Kp p0 p1 w) h

/-- trommel/trommelmem.Node -/
def n_trommelmem_Node (R : VK) (Kp : PK) (p0 : Value) (w : World) : Prop :=
  oBox Tryd.prog 35 p0 Kp w fun t1 w =>  -- mem.go:88
  oAlloc Tryd.prog 35 Kp w fun t2 w =>  -- mem.go:88
  nCut [3] (fun M1 =>
   ∃ S2 : World → Prop, S2 w.drew ∧
   oFA Tryd.prog 35 t1 0 noP w.drew fun t7 w =>  -- mem.go:89
   oHL Tryd.prog S2 25 t7 w fun t8 w =>  -- mem.go:89
   oFA Tryd.prog 35 t1 1 noP w fun t10 w =>  -- mem.go:89
   oHL Tryd.prog S2 3 t10 w fun t11 w =>  -- mem.go:89
   oFA Tryd.prog 35 t1 2 noP w fun t12 w =>  -- mem.go:89
   oHL Tryd.prog S2 33 t12 w fun t13 w =>  -- mem.go:89
   oD (lenOk [t13]) (oBI Tryd.prog Go.Builtin.len #[33] 3 [false] [t13] noP w (fun t14 w =>  -- mem.go:89
   oD (twin t14 (Go.Value.int Go.IntKind.i64 1)) (oBin Tryd.prog Go.BinOp.add 3 (Go.Operand.tmp 14) (Go.Operand.const (Go.Value.int Go.IntKind.i64 1)) t14 (Go.Value.int Go.IntKind.i64 1) noP w (fun t15 w =>  -- mem.go:89
   oAnd (
    oCall Tryd.prog 21 [t8] noP w fun t9 w => S2 w ∧  -- mem.go:89
    oAnd (
     oMS Tryd.prog 33 (Go.Value.int Go.IntKind.i64 0) t15 noP w fun t16 w => S2 w ∧  -- mem.go:89
     oBuild Tryd.prog 35 [(0, t9), (1, t11), (2, t16)] noP w fun t17 w =>  -- mem.go:89
     oAlloc Tryd.prog 35 noP w fun t3 w => S2 w ∧  -- mem.go:89
     oStore Tryd.prog 35 t3 t17 noP w fun _t w =>  -- mem.go:89
     M1 [t3] w) (
     oAlloc Tryd.prog 35 noP w fun t3 w => S2 w ∧  -- mem.go:89
     oMS Tryd.prog 33 (Go.Value.int Go.IntKind.i64 0) t15 noP w fun t16 w => S2 w ∧  -- mem.go:89
     oBuild Tryd.prog 35 [(0, t9), (1, t11), (2, t16)] noP w fun t17 w =>  -- mem.go:89
     oStore Tryd.prog 35 t3 t17 noP w fun _t w =>  -- mem.go:89
     M1 [t3] w)) (
    oAnd (
     oMS Tryd.prog 33 (Go.Value.int Go.IntKind.i64 0) t15 noP w fun t16 w => S2 w ∧  -- mem.go:89
     oAnd (
      oCall Tryd.prog 21 [t8] noP w fun t9 w => S2 w ∧  -- mem.go:89
      oBuild Tryd.prog 35 [(0, t9), (1, t11), (2, t16)] noP w fun t17 w =>  -- mem.go:89
      oAlloc Tryd.prog 35 noP w fun t3 w => S2 w ∧  -- mem.go:89
      oStore Tryd.prog 35 t3 t17 noP w fun _t w =>  -- mem.go:89
      M1 [t3] w) (
      oAlloc Tryd.prog 35 noP w fun t3 w => S2 w ∧  -- mem.go:89
      oCall Tryd.prog 21 [t8] noP w fun t9 w => S2 w ∧  -- mem.go:89
      oBuild Tryd.prog 35 [(0, t9), (1, t11), (2, t16)] noP w fun t17 w =>  -- mem.go:89
      oStore Tryd.prog 35 t3 t17 noP w fun _t w =>  -- mem.go:89
      M1 [t3] w)) (
     oAlloc Tryd.prog 35 noP w fun t3 w => S2 w ∧  -- mem.go:89
     oAnd (
      oCall Tryd.prog 21 [t8] noP w fun t9 w => S2 w ∧  -- mem.go:89
      oMS Tryd.prog 33 (Go.Value.int Go.IntKind.i64 0) t15 noP w fun t16 w => S2 w ∧  -- mem.go:89
      oBuild Tryd.prog 35 [(0, t9), (1, t11), (2, t16)] noP w fun t17 w =>  -- mem.go:89
      oStore Tryd.prog 35 t3 t17 noP w fun _t w =>  -- mem.go:89
      M1 [t3] w) (
      oMS Tryd.prog 33 (Go.Value.int Go.IntKind.i64 0) t15 noP w fun t16 w => S2 w ∧  -- mem.go:89
      oCall Tryd.prog 21 [t8] noP w fun t9 w => S2 w ∧  -- mem.go:89
      oBuild Tryd.prog 35 [(0, t9), (1, t11), (2, t16)] noP w fun t17 w =>  -- mem.go:89
      oStore Tryd.prog 35 t3 t17 noP w fun _t w =>  -- mem.go:89
      M1 [t3] w))))))))
  (fun g1 w =>
   oFA Tryd.prog 35 t1 2 Kp w fun t18 w =>  -- mem.go:90
   oLoad Tryd.prog 33 t18 Kp w fun t19 w =>  -- mem.go:90
   oBI Tryd.prog Go.Builtin.len #[33] 3 [false] [t19] Kp w fun t20 w =>  -- mem.go:90
   nLoop [21] [(Go.Value.int Go.IntKind.i64 0)] w (fun f3 ag3 w =>  -- 21=
    oBin Tryd.prog Go.BinOp.lss 3 (Go.Operand.tmp 21) (Go.Operand.tmp 20) (f3 21) t20 Kp w fun t22 w =>  -- mem.go:90
    oCond t22 (
     oIA Tryd.prog 33 t19 (f3 21) Kp w fun t23 w =>  -- mem.go:90
     oLoad Tryd.prog 35 t23 Kp w fun t24 w =>  -- mem.go:90
     oAlloc Tryd.prog 35 Kp w fun t5 w =>  -- mem.go:90
     oStore Tryd.prog 35 t5 t24 Kp w fun _t w =>  -- mem.go:90
     ∃ S4 : World → Prop, S4 w.drew ∧
     oFA Tryd.prog 35 (g1 3) 2 noP w.drew fun t25 w =>  -- mem.go:91
     oHL Tryd.prog S4 33 t25 w fun t26 w =>  -- mem.go:91
     oHL Tryd.prog S4 35 t5 w fun t27 w =>  -- mem.go:91
     oCall Tryd.prog 29 [t27] noP w fun t28 w => S4 w ∧  -- mem.go:91
     oBuildS Tryd.prog 33 1 [(0, t28)] noP w fun t29 w => S4 w ∧  -- mem.go:91
     oBI Tryd.prog Go.Builtin.append #[33, 33] 33 [false, false] [t26, t29] noP w fun t30 w =>  -- mem.go:91
     oFA Tryd.prog 35 (g1 3) 2 noP w fun t31 w =>  -- mem.go:91
     oStore Tryd.prog 33 t31 t30 noP w fun _t w =>  -- mem.go:91
     oBin Tryd.prog Go.BinOp.add 3 (Go.Operand.tmp 21) (Go.Operand.const (Go.Value.int Go.IntKind.i64 1)) (f3 21) (Go.Value.int Go.IntKind.i64 1) Kp w fun t32 w =>  -- mem.go:90
     ag3 [t32] w) (
     oFA Tryd.prog 35 (g1 3) 2 Kp w fun t33 w =>  -- mem.go:93
     oLoad Tryd.prog 33 t33 Kp w fun t34 w =>  -- mem.go:93
     oBuild Tryd.prog 35 [(1, (Go.Value.int Go.IntKind.i64 77))] Kp w fun t35 w =>  -- mem.go:93
     oBuildS Tryd.prog 33 1 [(0, t35)] Kp w fun t36 w =>  -- mem.go:93
     oBI Tryd.prog Go.Builtin.append #[33, 33] 33 [false, false] [t34, t36] Kp w fun t37 w =>  -- mem.go:93
     oFA Tryd.prog 35 (g1 3) 0 noP w.drew fun t38 w =>  -- mem.go:94
     oLD Tryd.prog 25 t38 w fun t39 w =>  -- mem.go:94
     oFA Tryd.prog 35 (g1 3) 1 noP w fun t40 w =>  -- mem.go:94
     oLD Tryd.prog 3 t40 w fun t41 w =>  -- mem.go:94
     oFA Tryd.prog 35 t1 2 noP w fun t43 w =>  -- mem.go:94
     oLD Tryd.prog 33 t43 w fun t44 w =>  -- mem.go:94
     oD (lenOk [t44]) (oBI Tryd.prog Go.Builtin.len #[33] 3 [false] [t44] noP w (fun t45 w =>  -- mem.go:94
     oSL Tryd.prog 33 t37 none (some t45) none noP w fun t46 w =>  -- mem.go:94
     oBuild Tryd.prog 35 [(0, t39), (1, t41), (2, t46)] noP w fun t47 w =>  -- mem.go:94
     oStore Tryd.prog 35 t2 t47 noP w fun _t w =>  -- mem.go:94
     oRL Tryd.prog 35 t2 w fun r0 =>
     R r0 w)))))
def a_trommelmem_Node : Ann := ⟨[(3, [21], 8587837472)], [(2, [3], 262024)], [(1, (.one 0 (.one 1 (.one 3 (.one 4 (.one 5 (.one 6 (.one 7 (.one 8 (.alt 2 (.alt 9 (.one 10 (.one 11 (.one 12 .nil))) (.one 11 (.one 9 (.one 10 (.one 12 .nil))))) (.alt 9 (.alt 2 (.one 10 (.one 11 (.one 12 .nil))) (.one 11 (.one 2 (.one 10 (.one 12 .nil))))) (.one 11 (.alt 2 (.one 9 (.one 10 (.one 12 .nil))) (.one 9 (.one 2 (.one 10 (.one 12 .nil)))))))))))))))))], []⟩
theorem e_trommelmem_Node (R : VK) (Kp : PK) (p0 : Value) (w : World) : W Tryd.prog a_trommelmem_Node Kp (bodyOf Tryd.f29) (retQ Tryd.prog Tryd.f29.results.toList R) (env0 [p0]) w = n_trommelmem_Node R Kp p0 w := by kernel_rfl
theorem c_trommelmem_Node {R : VK} {Kp : PK} {p0 : Value} {w : World} (h : n_trommelmem_Node R Kp p0 w) : Calls Tryd.prog 29 #[p0] w (callR R Kp) :=
  calls_of_N (an := a_trommelmem_Node) (args := [p0]) mixed_N1 Tryd.func29 (by kernel_rfl) (by kernel_rfl) (by kernel_rfl) (e_trommelmem_Node R Kp p0 w) h

/-- trommel/tree.Text -/
def n_tree_Text (R : VK) (Kp : PK) (p0 : Value) (w : World) : Prop :=
  oBox Tryd.prog 35 p0 Kp w fun t1 w =>  -- tree.go:203
  oLoad Tryd.prog 35 t1 Kp w fun t5 w =>  -- tree.go:204
  oCall Tryd.prog 39 [t5] Kp w fun t6 w =>  -- tree.go:204
  oBin Tryd.prog Go.BinOp.neq 28 (Go.Operand.tmp 7) (Go.Operand.const (Go.Value.int Go.IntKind.i64 0)) t6 (Go.Value.int Go.IntKind.i64 0) Kp w fun t8 w =>  -- tree.go:204
  oCond t8 (
   R (Go.Value.tuple #[(Go.Value.string (ByteArray.mk #[])), t6]) w) (
   oLoad Tryd.prog 35 t1 Kp w fun t10 w =>  -- tree.go:207
   oCall Tryd.prog 84 [t10] Kp w fun t11 w =>  -- tree.go:207
   R (Go.Value.tuple #[t11, (Go.Value.int Go.IntKind.i64 0)]) w)
def a_tree_Text : Ann := ⟨[], [], [], []⟩
theorem e_tree_Text (R : VK) (Kp : PK) (p0 : Value) (w : World) : W Tryd.prog a_tree_Text Kp (bodyOf Tryd.f30) (retQ Tryd.prog Tryd.f30.results.toList R) (env0 [p0]) w = n_tree_Text R Kp p0 w := by kernel_rfl
theorem c_tree_Text {R : VK} {Kp : PK} {p0 : Value} {w : World} (h : n_tree_Text R Kp p0 w) : Calls Tryd.prog 30 #[p0] w (callR R Kp) :=
  calls_of_N (an := a_tree_Text) (args := [p0]) mixed_N1 Tryd.func30 (by kernel_rfl) (by kernel_rfl) (by kernel_rfl) (e_tree_Text R Kp p0 w) h

/-- trommel/trommelmem.Ints -/
def n_trommelmem_Ints (R : VK) (Kp : PK) (p0 : Value) (w : World) : Prop :=
  oBI Tryd.prog Go.Builtin.len #[22] 3 [false] [p0] Kp w fun t5 w =>  -- mem.go:8
  oBin Tryd.prog Go.BinOp.add 3 (Go.Operand.tmp 5) (Go.Operand.const (Go.Value.int Go.IntKind.i64 2)) t5 (Go.Value.int Go.IntKind.i64 2) Kp w fun t6 w =>  -- mem.go:8
  oMS Tryd.prog 22 (Go.Value.int Go.IntKind.i64 0) t6 Kp w fun t7 w =>  -- mem.go:8
  oBI Tryd.prog Go.Builtin.append #[22, 22] 22 [false, false] [t7, p0] Kp w fun t9 w =>  -- mem.go:8
  oBuildS Tryd.prog 22 2 [(0, (Go.Value.int Go.IntKind.i64 (-77))), (1, (Go.Value.int Go.IntKind.i64 (-78)))] Kp w fun t10 w =>  -- mem.go:8
  oBI Tryd.prog Go.Builtin.append #[22, 22] 22 [false, false] [t9, t10] Kp w fun t11 w =>  -- mem.go:8
  oBI Tryd.prog Go.Builtin.len #[22] 3 [false] [p0] Kp w fun t14 w =>  -- mem.go:9
  oSL Tryd.prog 22 t11 none (some t14) none Kp w fun t15 w =>  -- mem.go:9
  R t15 w
def a_trommelmem_Ints : Ann := ⟨[], [], [], []⟩
theorem e_trommelmem_Ints (R : VK) (Kp : PK) (p0 : Value) (w : World) : W Tryd.prog a_trommelmem_Ints Kp (bodyOf Tryd.f31) (retQ Tryd.prog Tryd.f31.results.toList R) (env0 [p0]) w = n_trommelmem_Ints R Kp p0 w := by kernel_rfl
theorem c_trommelmem_Ints {R : VK} {Kp : PK} {p0 : Value} {w : World} (h : n_trommelmem_Ints R Kp p0 w) : Calls Tryd.prog 31 #[p0] w (callR R Kp) :=
  calls_of_N (an := a_trommelmem_Ints) (args := [p0]) mixed_N1 Tryd.func31 (by kernel_rfl) (by kernel_rfl) (by kernel_rfl) (e_trommelmem_Ints R Kp p0 w) h

/-- trommel/trommelmem.Words -/
def n_trommelmem_Words (R : VK) (Kp : PK) (p0 : Value) (w : World) : Prop :=
  oBI Tryd.prog Go.Builtin.len #[23] 3 [false] [p0] Kp w fun t5 w =>  -- mem.go:13
  oBin Tryd.prog Go.BinOp.add 3 (Go.Operand.tmp 5) (Go.Operand.const (Go.Value.int Go.IntKind.i64 2)) t5 (Go.Value.int Go.IntKind.i64 2) Kp w fun t6 w =>  -- mem.go:13
  oMS Tryd.prog 23 (Go.Value.int Go.IntKind.i64 0) t6 Kp w fun t7 w =>  -- mem.go:13
  oBI Tryd.prog Go.Builtin.append #[23, 23] 23 [false, false] [t7, p0] Kp w fun t9 w =>  -- mem.go:13
  oBuildS Tryd.prog 23 2 [(0, (Go.Value.string (ByteArray.mk #[115, 112, 97, 114, 101]))), (1, (Go.Value.string (ByteArray.mk #[114, 111, 111, 109])))] Kp w fun t10 w =>  -- mem.go:13
  oBI Tryd.prog Go.Builtin.append #[23, 23] 23 [false, false] [t9, t10] Kp w fun t11 w =>  -- mem.go:13
  oBI Tryd.prog Go.Builtin.len #[23] 3 [false] [p0] Kp w fun t14 w =>  -- mem.go:14
  oSL Tryd.prog 23 t11 none (some t14) none Kp w fun t15 w =>  -- mem.go:14
  R t15 w
def a_trommelmem_Words : Ann := ⟨[], [], [], []⟩
theorem e_trommelmem_Words (R : VK) (Kp : PK) (p0 : Value) (w : World) : W Tryd.prog a_trommelmem_Words Kp (bodyOf Tryd.f32) (retQ Tryd.prog Tryd.f32.results.toList R) (env0 [p0]) w = n_trommelmem_Words R Kp p0 w := by kernel_rfl
theorem c_trommelmem_Words {R : VK} {Kp : PK} {p0 : Value} {w : World} (h : n_trommelmem_Words R Kp p0 w) : Calls Tryd.prog 32 #[p0] w (callR R Kp) :=
  calls_of_N (an := a_trommelmem_Words) (args := [p0]) mixed_N1 Tryd.func32 (by kernel_rfl) (by kernel_rfl) (by kernel_rfl) (e_trommelmem_Words R Kp p0 w) h

/-- trommel/tree.Ints -/
def n_tree_Ints (R : VK) (Kp : PK) (p0 p1 : Value) (w : World) : Prop :=
  oAlloc Tryd.prog 35 Kp w fun t4 w =>  -- tree.go:116
  oBuild Tryd.prog 25 [(0, (Go.Value.int Go.IntKind.i64 1)), (1, p0), (2, p1)] Kp w fun t7 w =>  -- tree.go:117
  oCall Tryd.prog 85 [t7] Kp w fun t8 w =>  -- tree.go:117
  oStore Tryd.prog 35 t4 t8 Kp w fun _t w =>  -- tree.go:117
  oRL Tryd.prog 35 t4 w fun r0 =>
  R r0 w
def a_tree_Ints : Ann := ⟨[], [], [], []⟩
theorem e_tree_Ints (R : VK) (Kp : PK) (p0 p1 : Value) (w : World) : W Tryd.prog a_tree_Ints Kp (bodyOf Tryd.f33) (retQ Tryd.prog Tryd.f33.results.toList R) (env0 [p0, p1]) w = n_tree_Ints R Kp p0 p1 w := by kernel_rfl
theorem c_tree_Ints {R : VK} {Kp : PK} {p0 p1 : Value} {w : World} (h : n_tree_Ints R Kp p0 p1 w) : Calls Tryd.prog 33 #[p0, p1] w (callR R Kp) :=
  calls_of_N (an := a_tree_Ints) (args := [p0, p1]) mixed_N1 Tryd.func33 (by kernel_rfl) (by kernel_rfl) (by kernel_rfl) (e_tree_Ints R Kp p0 p1 w) h

/-- trommel/tree.Words -/
def n_tree_Words (R : VK) (Kp : PK) (p0 p1 : Value) (w : World) : Prop :=
  oAlloc Tryd.prog 35 Kp w fun t4 w =>  -- tree.go:121
  oBuild Tryd.prog 25 [(0, (Go.Value.int Go.IntKind.i64 2)), (1, p0), (3, p1)] Kp w fun t7 w =>  -- tree.go:122
  oCall Tryd.prog 85 [t7] Kp w fun t8 w =>  -- tree.go:122
  oStore Tryd.prog 35 t4 t8 Kp w fun _t w =>  -- tree.go:122
  oRL Tryd.prog 35 t4 w fun r0 =>
  R r0 w
def a_tree_Words : Ann := ⟨[], [], [], []⟩
theorem e_tree_Words (R : VK) (Kp : PK) (p0 p1 : Value) (w : World) : W Tryd.prog a_tree_Words Kp (bodyOf Tryd.f34) (retQ Tryd.prog Tryd.f34.results.toList R) (env0 [p0, p1]) w = n_tree_Words R Kp p0 p1 w := by kernel_rfl
theorem c_tree_Words {R : VK} {Kp : PK} {p0 p1 : Value} {w : World} (h : n_tree_Words R Kp p0 p1 w) : Calls Tryd.prog 34 #[p0, p1] w (callR R Kp) :=
  calls_of_N (an := a_tree_Words) (args := [p0, p1]) mixed_N1 Tryd.func34 (by kernel_rfl) (by kernel_rfl) (by kernel_rfl) (e_tree_Words R Kp p0 p1 w) h

/-- trommel/tree.Range -/
def n_tree_Range (R : VK) (Kp : PK) (p0 p1 p2 : Value) (w : World) : Prop :=
  oAlloc Tryd.prog 35 Kp w fun t6 w =>  -- tree.go:126
  oBuild Tryd.prog 25 [(0, (Go.Value.int Go.IntKind.i64 3)), (1, p0), (4, p1), (5, p2)] Kp w fun t10 w =>  -- tree.go:127
  oCall Tryd.prog 85 [t10] Kp w fun t11 w =>  -- tree.go:127
  oStore Tryd.prog 35 t6 t11 Kp w fun _t w =>  -- tree.go:127
  oRL Tryd.prog 35 t6 w fun r0 =>
  R r0 w
def a_tree_Range : Ann := ⟨[], [], [], []⟩
theorem e_tree_Range (R : VK) (Kp : PK) (p0 p1 p2 : Value) (w : World) : W Tryd.prog a_tree_Range Kp (bodyOf Tryd.f35) (retQ Tryd.prog Tryd.f35.results.toList R) (env0 [p0, p1, p2]) w = n_tree_Range R Kp p0 p1 p2 w := by kernel_rfl
theorem c_tree_Range {R : VK} {Kp : PK} {p0 p1 p2 : Value} {w : World} (h : n_tree_Range R Kp p0 p1 p2 w) : Calls Tryd.prog 35 #[p0, p1, p2] w (callR R Kp) :=
  calls_of_N (an := a_tree_Range) (args := [p0, p1, p2]) mixed_N1 Tryd.func35 (by kernel_rfl) (by kernel_rfl) (by kernel_rfl) (e_tree_Range R Kp p0 p1 p2 w) h

/-- trommel/tree.Prefix -/
def n_tree_Prefix (R : VK) (Kp : PK) (p0 p1 : Value) (w : World) : Prop :=
  oAlloc Tryd.prog 35 Kp w fun t4 w =>  -- tree.go:131
  oBuildS Tryd.prog 23 1 [(0, p1)] Kp w fun t7 w =>  -- tree.go:132
  oBuild Tryd.prog 25 [(0, (Go.Value.int Go.IntKind.i64 4)), (1, p0), (3, t7)] Kp w fun t8 w =>  -- tree.go:132
  oCall Tryd.prog 85 [t8] Kp w fun t9 w =>  -- tree.go:132
  oStore Tryd.prog 35 t4 t9 Kp w fun _t w =>  -- tree.go:132
  oRL Tryd.prog 35 t4 w fun r0 =>
  R r0 w
def a_tree_Prefix : Ann := ⟨[], [], [], []⟩
theorem e_tree_Prefix (R : VK) (Kp : PK) (p0 p1 : Value) (w : World) : W Tryd.prog a_tree_Prefix Kp (bodyOf Tryd.f36) (retQ Tryd.prog Tryd.f36.results.toList R) (env0 [p0, p1]) w = n_tree_Prefix R Kp p0 p1 w := by kernel_rfl
theorem c_tree_Prefix {R : VK} {Kp : PK} {p0 p1 : Value} {w : World} (h : n_tree_Prefix R Kp p0 p1 w) : Calls Tryd.prog 36 #[p0, p1] w (callR R Kp) :=
  calls_of_N (an := a_tree_Prefix) (args := [p0, p1]) mixed_N1 Tryd.func36 (by kernel_rfl) (by kernel_rfl) (by kernel_rfl) (e_tree_Prefix R Kp p0 p1 w) h

/-- trommel/trommelmem.OverInts -/
def n_trommelmem_OverInts (R : VK) (Kp : PK) (p0 : Value) (w : World) : Prop :=
  oBI Tryd.prog Go.Builtin.len #[22] 3 [false] [p0] Kp w fun t5 w =>  -- mem.go:137
  nLoop [6] [(Go.Value.int Go.IntKind.i64 0)] w (fun f1 ag1 w =>  -- 6=
   oBin Tryd.prog Go.BinOp.lss 3 (Go.Operand.tmp 6) (Go.Operand.tmp 5) (f1 6) t5 Kp w fun t7 w =>  -- mem.go:137
   oCond t7 (
    oBin Tryd.prog Go.BinOp.sub 3 (Go.Operand.const (Go.Value.int Go.IntKind.i64 (-1000))) (Go.Operand.tmp 11) (Go.Value.int Go.IntKind.i64 (-1000)) (f1 6) Kp w fun t12 w =>  -- mem.go:138
    oIA Tryd.prog 22 p0 (f1 6) Kp w fun t13 w =>  -- mem.go:138
    oStore Tryd.prog 3 t13 t12 Kp w fun _t w =>  -- mem.go:138
    oBin Tryd.prog Go.BinOp.add 3 (Go.Operand.tmp 6) (Go.Operand.const (Go.Value.int Go.IntKind.i64 1)) (f1 6) (Go.Value.int Go.IntKind.i64 1) Kp w fun t14 w =>  -- mem.go:137
    ag1 [t14] w) (
    oBuildS Tryd.prog 22 2 [(0, (Go.Value.int Go.IntKind.i64 (-5))), (1, (Go.Value.int Go.IntKind.i64 (-6)))] Kp w fun t16 w =>  -- mem.go:140
    oBI Tryd.prog Go.Builtin.append #[22, 22] 22 [false, false] [p0, t16] Kp w fun t17 w =>  -- mem.go:140
    oBI Tryd.prog Go.Builtin.len #[22] 3 [false] [p0] Kp w fun t20 w =>  -- mem.go:141
    oIA Tryd.prog 22 t17 t20 Kp w fun t21 w =>  -- mem.go:141
    oStore Tryd.prog 3 t21 (Go.Value.int Go.IntKind.i64 (-7)) Kp w fun _t w =>  -- mem.go:141
    R (Go.Value.tuple #[]) w))
def a_trommelmem_OverInts : Ann := ⟨[(1, [6], 32708)], [], [], []⟩
theorem e_trommelmem_OverInts (R : VK) (Kp : PK) (p0 : Value) (w : World) : W Tryd.prog a_trommelmem_OverInts Kp (bodyOf Tryd.f37) (retQ Tryd.prog Tryd.f37.results.toList R) (env0 [p0]) w = n_trommelmem_OverInts R Kp p0 w := by kernel_rfl
theorem c_trommelmem_OverInts {R : VK} {Kp : PK} {p0 : Value} {w : World} (h : n_trommelmem_OverInts R Kp p0 w) : Calls Tryd.prog 37 #[p0] w (callR R Kp) :=
  calls_of_N (an := a_trommelmem_OverInts) (args := [p0]) mixed_N1 Tryd.func37 (by kernel_rfl) (by kernel_rfl) (by kernel_rfl) (e_trommelmem_OverInts R Kp p0 w) h

/-- trommel/trommelmem.OverWords -/
def n_trommelmem_OverWords (R : VK) (Kp : PK) (p0 : Value) (w : World) : Prop :=
  oBI Tryd.prog Go.Builtin.len #[23] 3 [false] [p0] Kp w fun t5 w =>  -- mem.go:145
  nLoop [6] [(Go.Value.int Go.IntKind.i64 0)] w (fun f1 ag1 w =>  -- 6=
   oBin Tryd.prog Go.BinOp.lss 3 (Go.Operand.tmp 6) (Go.Operand.tmp 5) (f1 6) t5 Kp w fun t7 w =>  -- mem.go:145
   oCond t7 (
    oIA Tryd.prog 23 p0 (f1 6) Kp w fun t11 w =>  -- mem.go:146
    oStore Tryd.prog 9 t11 (Go.Value.string (ByteArray.mk #[111, 118, 101, 114])) Kp w fun _t w =>  -- mem.go:146
    oBin Tryd.prog Go.BinOp.add 3 (Go.Operand.tmp 6) (Go.Operand.const (Go.Value.int Go.IntKind.i64 1)) (f1 6) (Go.Value.int Go.IntKind.i64 1) Kp w fun t12 w =>  -- mem.go:145
    ag1 [t12] w) (
    oBuildS Tryd.prog 23 2 [(0, (Go.Value.string (ByteArray.mk #[103, 114, 111, 119, 110]))), (1, (Go.Value.string (ByteArray.mk #[109, 111, 114, 101])))] Kp w fun t14 w =>  -- mem.go:148
    oBI Tryd.prog Go.Builtin.append #[23, 23] 23 [false, false] [p0, t14] Kp w fun t15 w =>  -- mem.go:148
    oBI Tryd.prog Go.Builtin.len #[23] 3 [false] [p0] Kp w fun t18 w =>  -- mem.go:149
    oIA Tryd.prog 23 t15 t18 Kp w fun t19 w =>  -- mem.go:149
    oStore Tryd.prog 9 t19 (Go.Value.string (ByteArray.mk #[103, 114, 111, 119, 110, 32, 115, 116, 105, 108, 108])) Kp w fun _t w =>  -- mem.go:149
    R (Go.Value.tuple #[]) w))
def a_trommelmem_OverWords : Ann := ⟨[(1, [6], 8132)], [], [], []⟩
theorem e_trommelmem_OverWords (R : VK) (Kp : PK) (p0 : Value) (w : World) : W Tryd.prog a_trommelmem_OverWords Kp (bodyOf Tryd.f38) (retQ Tryd.prog Tryd.f38.results.toList R) (env0 [p0]) w = n_trommelmem_OverWords R Kp p0 w := by kernel_rfl
theorem c_trommelmem_OverWords {R : VK} {Kp : PK} {p0 : Value} {w : World} (h : n_trommelmem_OverWords R Kp p0 w) : Calls Tryd.prog 38 #[p0] w (callR R Kp) :=
  calls_of_N (an := a_trommelmem_OverWords) (args := [p0]) mixed_N1 Tryd.func38 (by kernel_rfl) (by kernel_rfl) (by kernel_rfl) (e_trommelmem_OverWords R Kp p0 w) h

/-- trommel/tree.Check -/
def n_tree_Check (R : VK) (Kp : PK) (p0 : Value) (w : World) : Prop :=
  oBox Tryd.prog 35 p0 Kp w fun t1 w =>  -- tree.go:52
  oFA Tryd.prog 35 t1 0 Kp w fun t6 w =>  -- tree.go:53
  oLoad Tryd.prog 25 t6 Kp w fun t7 w =>  -- tree.go:53
  oBuild Tryd.prog 25 [] Kp w fun t8 w =>  -- tree.go:53
  oCall Tryd.prog 82 [t7, t8] Kp w fun t9 w =>  -- tree.go:53
  nCut [] (fun M1 =>
   oFA Tryd.prog 35 t1 1 Kp w fun t10 w =>  -- tree.go:54
   oLoad Tryd.prog 3 t10 Kp w fun t11 w =>  -- tree.go:54
   oBin Tryd.prog Go.BinOp.eql 3 (Go.Operand.tmp 11) (Go.Operand.const (Go.Value.int Go.IntKind.i64 1)) t11 (Go.Value.int Go.IntKind.i64 1) Kp w fun t13 w =>  -- tree.go:55
   oCond t13 (
    ∃ S2 : World → Prop, S2 w.drew ∧
    oFA Tryd.prog 35 t1 0 noP w.drew fun t14 w =>  -- tree.go:56
    oHL Tryd.prog S2 25 t14 w fun t15 w =>  -- tree.go:56
    oCall Tryd.prog 22 [t15] noP w fun t16 w => S2 w ∧  -- tree.go:56
    oD (twin t16 (Go.Value.int Go.IntKind.i64 0)) (oBin Tryd.prog Go.BinOp.eql 28 (Go.Operand.tmp 16) (Go.Operand.const (Go.Value.int Go.IntKind.i64 0)) t16 (Go.Value.int Go.IntKind.i64 0) noP w (fun t17 w =>  -- tree.go:56
    oFA Tryd.prog 35 t1 2 noP w fun t18 w =>  -- tree.go:56
    oHL Tryd.prog S2 33 t18 w fun t19 w =>  -- tree.go:56
    oD (lenOk [t19]) (oBI Tryd.prog Go.Builtin.len #[33] 3 [false] [t19] noP w (fun t20 w =>  -- tree.go:56
    oD (twin t20 (Go.Value.int Go.IntKind.i64 0)) (oBin Tryd.prog Go.BinOp.eql 3 (Go.Operand.tmp 20) (Go.Operand.const (Go.Value.int Go.IntKind.i64 0)) t20 (Go.Value.int Go.IntKind.i64 0) noP w (fun t21 w =>  -- tree.go:56
    oBuildS Tryd.prog 121 2 [(0, t17), (1, t21)] noP w fun t22 w =>  -- tree.go:56
    oCall Tryd.prog 75 [t22] noP w fun t23 w =>  -- tree.go:56
    R t23 w))))))) (
    oBin Tryd.prog Go.BinOp.eql 3 (Go.Operand.tmp 11) (Go.Operand.const (Go.Value.int Go.IntKind.i64 2)) t11 (Go.Value.int Go.IntKind.i64 2) Kp w fun t25 w =>  -- tree.go:57
    oCond t25 (
     oFA Tryd.prog 35 t1 2 Kp w fun t27 w =>  -- tree.go:58
     oLoad Tryd.prog 33 t27 Kp w fun t28 w =>  -- tree.go:58
     oBI Tryd.prog Go.Builtin.len #[33] 3 [false] [t28] Kp w fun t29 w =>  -- tree.go:58
     oBin Tryd.prog Go.BinOp.eql 3 (Go.Operand.tmp 29) (Go.Operand.const (Go.Value.int Go.IntKind.i64 1)) t29 (Go.Value.int Go.IntKind.i64 1) Kp w fun t30 w =>  -- tree.go:58
     oBuildS Tryd.prog 121 2 [(0, t9), (1, t30)] Kp w fun t31 w =>  -- tree.go:58
     oCall Tryd.prog 75 [t31] Kp w fun t32 w =>  -- tree.go:58
     oBin Tryd.prog Go.BinOp.neq 28 (Go.Operand.tmp 33) (Go.Operand.const (Go.Value.int Go.IntKind.i64 0)) t32 (Go.Value.int Go.IntKind.i64 0) Kp w fun t34 w =>  -- tree.go:58
     oCond t34 (
      R t32 w) (
      M1 [] w)) (
     nCut [36] (fun M3 =>
      oBin Tryd.prog Go.BinOp.eql 3 (Go.Operand.tmp 11) (Go.Operand.const (Go.Value.int Go.IntKind.i64 3)) t11 (Go.Value.int Go.IntKind.i64 3) Kp w fun t37 w =>  -- tree.go:61
      oCond t37 (
       M3 [t37] w) (
       oBin Tryd.prog Go.BinOp.eql 3 (Go.Operand.tmp 11) (Go.Operand.const (Go.Value.int Go.IntKind.i64 4)) t11 (Go.Value.int Go.IntKind.i64 4) Kp w fun t38 w =>  -- tree.go:61
       M3 [t38] w))
     (fun g3 w =>
      oCond (g3 36) (
       oFA Tryd.prog 35 t1 2 Kp w fun t40 w =>  -- tree.go:62
       oLoad Tryd.prog 33 t40 Kp w fun t41 w =>  -- tree.go:62
       oBI Tryd.prog Go.Builtin.len #[33] 3 [false] [t41] Kp w fun t42 w =>  -- tree.go:62
       oBin Tryd.prog Go.BinOp.gtr 3 (Go.Operand.tmp 42) (Go.Operand.const (Go.Value.int Go.IntKind.i64 1)) t42 (Go.Value.int Go.IntKind.i64 1) Kp w fun t43 w =>  -- tree.go:62
       oBuildS Tryd.prog 121 2 [(0, t9), (1, t43)] Kp w fun t44 w =>  -- tree.go:62
       oCall Tryd.prog 75 [t44] Kp w fun t45 w =>  -- tree.go:62
       oBin Tryd.prog Go.BinOp.neq 28 (Go.Operand.tmp 46) (Go.Operand.const (Go.Value.int Go.IntKind.i64 0)) t45 (Go.Value.int Go.IntKind.i64 0) Kp w fun t47 w =>  -- tree.go:62
       oCond t47 (
        R t45 w) (
        M1 [] w)) (
       R (Go.Value.int Go.IntKind.i64 1) w)))))
  (fun g1 w =>
   oFA Tryd.prog 35 t1 2 Kp w fun t49 w =>  -- tree.go:68
   oLoad Tryd.prog 33 t49 Kp w fun t50 w =>  -- tree.go:68
   oCall Tryd.prog 86 [t50, (Go.Value.func (Go.Fn.func 87) #[] #[])] Kp w fun t51 w =>  -- tree.go:68
   oBuildS Tryd.prog 121 1 [(0, t51)] Kp w fun t52 w =>  -- tree.go:68
   oCall Tryd.prog 75 [t52] Kp w fun t53 w =>  -- tree.go:68
   R t53 w)
def a_tree_Check : Ann := ⟨[], [(15, [], 562949953420340), (12, [36], 481036337152)], [], []⟩
theorem e_tree_Check (R : VK) (Kp : PK) (p0 : Value) (w : World) : W Tryd.prog a_tree_Check Kp (bodyOf Tryd.f39) (retQ Tryd.prog Tryd.f39.results.toList R) (env0 [p0]) w = n_tree_Check R Kp p0 w := by kernel_rfl
theorem c_tree_Check {R : VK} {Kp : PK} {p0 : Value} {w : World} (h : n_tree_Check R Kp p0 w) : Calls Tryd.prog 39 #[p0] w (callR R Kp) :=
  calls_of_N (an := a_tree_Check) (args := [p0]) mixed_N1 Tryd.func39 (by kernel_rfl) (by kernel_rfl) (by kernel_rfl) (e_tree_Check R Kp p0 w) h

/-- trommel/tree.And -/
def n_tree_And (R : VK) (Kp : PK) (p0 : Value) (w : World) : Prop :=
  oAlloc Tryd.prog 35 Kp w fun t2 w =>  -- tree.go:150
  oCall Tryd.prog 88 [(Go.Value.int Go.IntKind.i64 3), p0] Kp w fun t4 w =>  -- tree.go:150
  oStore Tryd.prog 35 t2 t4 Kp w fun _t w =>  -- tree.go:150
  oRL Tryd.prog 35 t2 w fun r0 =>
  R r0 w
def a_tree_And : Ann := ⟨[], [], [], []⟩
theorem e_tree_And (R : VK) (Kp : PK) (p0 : Value) (w : World) : W Tryd.prog a_tree_And Kp (bodyOf Tryd.f40) (retQ Tryd.prog Tryd.f40.results.toList R) (env0 [p0]) w = n_tree_And R Kp p0 w := by kernel_rfl
theorem c_tree_And {R : VK} {Kp : PK} {p0 : Value} {w : World} (h : n_tree_And R Kp p0 w) : Calls Tryd.prog 40 #[p0] w (callR R Kp) :=
  calls_of_N (an := a_tree_And) (args := [p0]) mixed_N1 Tryd.func40 (by kernel_rfl) (by kernel_rfl) (by kernel_rfl) (e_tree_And R Kp p0 w) h

/-- trommel/tree.Or -/
def n_tree_Or (R : VK) (Kp : PK) (p0 : Value) (w : World) : Prop :=
  oAlloc Tryd.prog 35 Kp w fun t2 w =>  -- tree.go:153
  oCall Tryd.prog 88 [(Go.Value.int Go.IntKind.i64 4), p0] Kp w fun t4 w =>  -- tree.go:153
  oStore Tryd.prog 35 t2 t4 Kp w fun _t w =>  -- tree.go:153
  oRL Tryd.prog 35 t2 w fun r0 =>
  R r0 w
def a_tree_Or : Ann := ⟨[], [], [], []⟩
theorem e_tree_Or (R : VK) (Kp : PK) (p0 : Value) (w : World) : W Tryd.prog a_tree_Or Kp (bodyOf Tryd.f41) (retQ Tryd.prog Tryd.f41.results.toList R) (env0 [p0]) w = n_tree_Or R Kp p0 w := by kernel_rfl
theorem c_tree_Or {R : VK} {Kp : PK} {p0 : Value} {w : World} (h : n_tree_Or R Kp p0 w) : Calls Tryd.prog 41 #[p0] w (callR R Kp) :=
  calls_of_N (an := a_tree_Or) (args := [p0]) mixed_N1 Tryd.func41 (by kernel_rfl) (by kernel_rfl) (by kernel_rfl) (e_tree_Or R Kp p0 w) h

/-- trommel/tree.Not -/
def n_tree_Not (R : VK) (Kp : PK) (p0 : Value) (w : World) : Prop :=
  oBox Tryd.prog 35 p0 Kp w fun t1 w =>  -- tree.go:136
  oAlloc Tryd.prog 35 Kp w fun t2 w =>  -- tree.go:136
  oLoad Tryd.prog 35 t1 Kp w fun t3 w =>  -- tree.go:136
  oBuildS Tryd.prog 33 1 [(0, t3)] Kp w fun t4 w =>  -- tree.go:136
  oCall Tryd.prog 89 [t4] Kp w fun t5 w =>  -- tree.go:136
  oBuild Tryd.prog 35 [(1, (Go.Value.int Go.IntKind.i64 2)), (2, t5)] Kp w fun t6 w =>  -- tree.go:136
  oStore Tryd.prog 35 t2 t6 Kp w fun _t w =>  -- tree.go:136
  oRL Tryd.prog 35 t2 w fun r0 =>
  R r0 w
def a_tree_Not : Ann := ⟨[], [], [], []⟩
theorem e_tree_Not (R : VK) (Kp : PK) (p0 : Value) (w : World) : W Tryd.prog a_tree_Not Kp (bodyOf Tryd.f42) (retQ Tryd.prog Tryd.f42.results.toList R) (env0 [p0]) w = n_tree_Not R Kp p0 w := by kernel_rfl
theorem c_tree_Not {R : VK} {Kp : PK} {p0 : Value} {w : World} (h : n_tree_Not R Kp p0 w) : Calls Tryd.prog 42 #[p0] w (callR R Kp) :=
  calls_of_N (an := a_tree_Not) (args := [p0]) mixed_N1 Tryd.func42 (by kernel_rfl) (by kernel_rfl) (by kernel_rfl) (e_tree_Not R Kp p0 w) h

/-- trommel/trommelmem.KeptNode -/
def n_trommelmem_KeptNode (R : VK) (Kp : PK) (p0 p1 : Value) (w : World) : Prop :=
  oBox Tryd.prog 35 p0 Kp w fun t2 w =>  -- mem.go:119
  oBox Tryd.prog 35 p1 Kp w fun t3 w =>  -- mem.go:119
  oFA Tryd.prog 35 t2 1 Kp w fun t7 w =>  -- mem.go:120
  oLoad Tryd.prog 3 t7 Kp w fun t8 w =>  -- mem.go:120
  oFA Tryd.prog 35 t3 1 Kp w fun t9 w =>  -- mem.go:120
  oLoad Tryd.prog 3 t9 Kp w fun t10 w =>  -- mem.go:120
  oBin Tryd.prog Go.BinOp.neq 3 (Go.Operand.tmp 8) (Go.Operand.tmp 10) t8 t10 Kp w fun t11 w =>  -- mem.go:120
  oG (isB t11 false) (fun K => oFA Tryd.prog 35 t2 2 Kp w K) (fun t13 w =>  -- mem.go:120
  oG (isB t11 false) (fun K => oLoad Tryd.prog 33 t13 Kp w K) (fun t14 w =>  -- mem.go:120
  oG (isB t11 false) (fun K => oBI Tryd.prog Go.Builtin.len #[33] 3 [false] [t14] Kp w K) (fun t15 w =>  -- mem.go:120
  oG (isB t11 false) (fun K => oFA Tryd.prog 35 t3 2 Kp w K) (fun t16 w =>  -- mem.go:120
  oG (isB t11 false) (fun K => oLoad Tryd.prog 33 t16 Kp w K) (fun t17 w =>  -- mem.go:120
  oG (isB t11 false) (fun K => oBI Tryd.prog Go.Builtin.len #[33] 3 [false] [t17] Kp w K) (fun t18 w =>  -- mem.go:120
  oG (isB t11 false) (fun K => oBin Tryd.prog Go.BinOp.neq 3 (Go.Operand.tmp 15) (Go.Operand.tmp 18) t15 t18 Kp w K) (fun t19 w =>  -- mem.go:120
  oPick Tryd.prog t11 (Go.Value.bool Bool.true) t19 Kp w fun t20 w =>  -- mem.go:120
  oG (isB t20 false) (fun K => oFA Tryd.prog 35 t2 0 Kp w K) (fun t22 w =>  -- mem.go:120
  oG (isB t20 false) (fun K => oLoad Tryd.prog 25 t22 Kp w K) (fun t23 w =>  -- mem.go:120
  oG (isB t20 false) (fun K => oFA Tryd.prog 35 t3 0 Kp w K) (fun t24 w =>  -- mem.go:120
  oG (isB t20 false) (fun K => oLoad Tryd.prog 25 t24 Kp w K) (fun t25 w =>  -- mem.go:120
  oG (isB t20 false) (fun K => oCall Tryd.prog 25 [t23, t25] Kp w K) (fun t26 w =>  -- mem.go:120
  oG (isB t20 false) (fun K => oUn Tryd.prog Go.UnOp.not t26 Kp w K) (fun t27 w =>  -- mem.go:120
  oPick Tryd.prog t20 (Go.Value.bool Bool.true) t27 Kp w fun t28 w =>  -- mem.go:120
  oCond t28 (
   R (Go.Value.bool Bool.false) w) (
   oFA Tryd.prog 35 t2 2 Kp w fun t29 w =>  -- mem.go:123
   oLoad Tryd.prog 33 t29 Kp w fun t30 w =>  -- mem.go:123
   oFA Tryd.prog 35 t2 2 Kp w fun t31 w =>  -- mem.go:123
   oLoad Tryd.prog 33 t31 Kp w fun t32 w =>  -- mem.go:123
   oBI Tryd.prog Go.Builtin.len #[33] 3 [false] [t32] Kp w fun t33 w =>  -- mem.go:123
   oBin Tryd.prog Go.BinOp.add 3 (Go.Operand.tmp 33) (Go.Operand.const (Go.Value.int Go.IntKind.i64 1)) t33 (Go.Value.int Go.IntKind.i64 1) Kp w fun t34 w =>  -- mem.go:123
   oSL Tryd.prog 33 t30 none (some t34) none Kp w fun t35 w =>  -- mem.go:123
   oFA Tryd.prog 35 t2 2 Kp w fun t37 w =>  -- mem.go:124
   oLoad Tryd.prog 33 t37 Kp w fun t38 w =>  -- mem.go:124
   oBI Tryd.prog Go.Builtin.len #[33] 3 [false] [t38] Kp w fun t39 w =>  -- mem.go:124
   oIA Tryd.prog 33 t35 t39 Kp w fun t40 w =>  -- mem.go:124
   oFA Tryd.prog 35 t40 1 Kp w fun t41 w =>  -- mem.go:124
   oLoad Tryd.prog 3 t41 Kp w fun t42 w =>  -- mem.go:124
   oBin Tryd.prog Go.BinOp.neq 3 (Go.Operand.tmp 42) (Go.Operand.const (Go.Value.int Go.IntKind.i64 77)) t42 (Go.Value.int Go.IntKind.i64 77) Kp w fun t43 w =>  -- mem.go:124
   oCond t43 (
    R (Go.Value.bool Bool.false) w) (
    oFA Tryd.prog 35 t2 2 Kp w fun t44 w =>  -- mem.go:127
    oLoad Tryd.prog 33 t44 Kp w fun t45 w =>  -- mem.go:127
    oBI Tryd.prog Go.Builtin.len #[33] 3 [false] [t45] Kp w fun t46 w =>  -- mem.go:127
    nLoop [47] [(Go.Value.int Go.IntKind.i64 0)] w (fun f1 ag1 w =>  -- 47=
     oBin Tryd.prog Go.BinOp.lss 3 (Go.Operand.tmp 47) (Go.Operand.tmp 46) (f1 47) t46 Kp w fun t48 w =>  -- mem.go:127
     oCond t48 (
      oFA Tryd.prog 35 t2 2 noP w.drew fun t50 w =>  -- mem.go:128
      oLD Tryd.prog 33 t50 w fun t51 w =>  -- mem.go:128
      oIA Tryd.prog 33 t51 (f1 47) noP w fun t53 w =>  -- mem.go:128
      oLD Tryd.prog 35 t53 w fun t54 w =>  -- mem.go:128
      oFA Tryd.prog 35 t3 2 noP w fun t55 w =>  -- mem.go:128
      oLD Tryd.prog 33 t55 w fun t56 w =>  -- mem.go:128
      oIA Tryd.prog 33 t56 (f1 47) noP w fun t58 w =>  -- mem.go:128
      oLD Tryd.prog 35 t58 w fun t59 w =>  -- mem.go:128
      oCall Tryd.prog 43 [t54, t59] noP w fun t60 w =>  -- mem.go:128
      oUn Tryd.prog Go.UnOp.not t60 noP w fun t61 w =>  -- mem.go:128
      oCond t61 (
       R (Go.Value.bool Bool.false) w) (
       oBin Tryd.prog Go.BinOp.add 3 (Go.Operand.tmp 47) (Go.Operand.const (Go.Value.int Go.IntKind.i64 1)) (f1 47) (Go.Value.int Go.IntKind.i64 1) Kp w fun t62 w =>  -- mem.go:127
       ag1 [t62] w)) (
      R (Go.Value.bool Bool.true) w))))) w) w) w) w) w) w) w) w) w) w) w) w) w
def a_trommelmem_KeptNode : Ann := ⟨[(7, [47], 9223231299366420560)], [], [], []⟩
theorem e_trommelmem_KeptNode (R : VK) (Kp : PK) (p0 p1 : Value) (w : World) : W Tryd.prog a_trommelmem_KeptNode Kp (bodyOf Tryd.f43) (retQ Tryd.prog Tryd.f43.results.toList R) (env0 [p0, p1]) w = n_trommelmem_KeptNode R Kp p0 p1 w := by kernel_rfl
theorem c_trommelmem_KeptNode {R : VK} {Kp : PK} {p0 p1 : Value} {w : World} (h : n_trommelmem_KeptNode R Kp p0 p1 w) : Calls Tryd.prog 43 #[p0, p1] w (callR R Kp) :=
  calls_of_N (an := a_trommelmem_KeptNode) (args := [p0, p1]) mixed_N1 Tryd.func43 (by kernel_rfl) (by kernel_rfl) (by kernel_rfl) (e_trommelmem_KeptNode R Kp p0 p1 w) h

/-- trommel/trommelmem.OverNode -/
def n_trommelmem_OverNode (R : VK) (Kp : PK) (p0 : Value) (w : World) : Prop :=
  oBox Tryd.prog 35 p0 Kp w fun t1 w =>  -- mem.go:165
  oFA Tryd.prog 35 t1 0 Kp w fun t4 w =>  -- mem.go:166
  oLoad Tryd.prog 25 t4 Kp w fun t5 w =>  -- mem.go:166
  oCall Tryd.prog 90 [t5] Kp w fun t6 w =>  -- mem.go:166
  oFA Tryd.prog 35 t1 2 Kp w fun t7 w =>  -- mem.go:167
  oLoad Tryd.prog 33 t7 Kp w fun t8 w =>  -- mem.go:167
  oBI Tryd.prog Go.Builtin.len #[33] 3 [false] [t8] Kp w fun t9 w =>  -- mem.go:167
  nLoop [10] [(Go.Value.int Go.IntKind.i64 0)] w (fun f1 ag1 w =>  -- 10=
   oBin Tryd.prog Go.BinOp.lss 3 (Go.Operand.tmp 10) (Go.Operand.tmp 9) (f1 10) t9 Kp w fun t11 w =>  -- mem.go:167
   oCond t11 (
    oFA Tryd.prog 35 t1 2 Kp w fun t13 w =>  -- mem.go:168
    oLoad Tryd.prog 33 t13 Kp w fun t14 w =>  -- mem.go:168
    oIA Tryd.prog 33 t14 (f1 10) Kp w fun t16 w =>  -- mem.go:168
    oLoad Tryd.prog 35 t16 Kp w fun t17 w =>  -- mem.go:168
    oCall Tryd.prog 44 [t17] Kp w fun t18 w =>  -- mem.go:168
    oFA Tryd.prog 35 t1 2 Kp w fun t19 w =>  -- mem.go:169
    oLoad Tryd.prog 33 t19 Kp w fun t20 w =>  -- mem.go:169
    oIA Tryd.prog 33 t20 (f1 10) Kp w fun t22 w =>  -- mem.go:169
    oFA Tryd.prog 35 t22 1 Kp w fun t23 w =>  -- mem.go:169
    oStore Tryd.prog 3 t23 (Go.Value.int Go.IntKind.i64 99) Kp w fun _t w =>  -- mem.go:169
    oFA Tryd.prog 35 t1 2 Kp w fun t24 w =>  -- mem.go:170
    oLoad Tryd.prog 33 t24 Kp w fun t25 w =>  -- mem.go:170
    oIA Tryd.prog 33 t25 (f1 10) Kp w fun t27 w =>  -- mem.go:170
    oFA Tryd.prog 35 t27 0 Kp w fun t28 w =>  -- mem.go:170
    oFA Tryd.prog 25 t28 1 Kp w fun t29 w =>  -- mem.go:170
    oStore Tryd.prog 9 t29 (Go.Value.string (ByteArray.mk #[111, 118, 101, 114])) Kp w fun _t w =>  -- mem.go:170
    oBin Tryd.prog Go.BinOp.add 3 (Go.Operand.tmp 10) (Go.Operand.const (Go.Value.int Go.IntKind.i64 1)) (f1 10) (Go.Value.int Go.IntKind.i64 1) Kp w fun t30 w =>  -- mem.go:167
    ag1 [t30] w) (
    oFA Tryd.prog 35 t1 2 Kp w fun t31 w =>  -- mem.go:172
    oLoad Tryd.prog 33 t31 Kp w fun t32 w =>  -- mem.go:172
    oBuild Tryd.prog 35 [(1, (Go.Value.int Go.IntKind.i64 55))] Kp w fun t33 w =>  -- mem.go:172
    oBuild Tryd.prog 35 [] Kp w fun t34 w =>  -- mem.go:172
    oBuildS Tryd.prog 33 2 [(0, t33), (1, t34)] Kp w fun t35 w =>  -- mem.go:172
    oBI Tryd.prog Go.Builtin.append #[33, 33] 33 [false, false] [t32, t35] Kp w fun t36 w =>  -- mem.go:172
    oFA Tryd.prog 35 t1 2 Kp w fun t38 w =>  -- mem.go:173
    oLoad Tryd.prog 33 t38 Kp w fun t39 w =>  -- mem.go:173
    oBI Tryd.prog Go.Builtin.len #[33] 3 [false] [t39] Kp w fun t40 w =>  -- mem.go:173
    oIA Tryd.prog 33 t36 t40 Kp w fun t41 w =>  -- mem.go:173
    oFA Tryd.prog 35 t41 1 Kp w fun t42 w =>  -- mem.go:173
    oStore Tryd.prog 3 t42 (Go.Value.int Go.IntKind.i64 56) Kp w fun _t w =>  -- mem.go:173
    R (Go.Value.tuple #[]) w))
def a_trommelmem_OverNode : Ann := ⟨[(3, [10], 2147482628)], [], [], []⟩
theorem e_trommelmem_OverNode (R : VK) (Kp : PK) (p0 : Value) (w : World) : W Tryd.prog a_trommelmem_OverNode Kp (bodyOf Tryd.f44) (retQ Tryd.prog Tryd.f44.results.toList R) (env0 [p0]) w = n_trommelmem_OverNode R Kp p0 w := by kernel_rfl
theorem c_trommelmem_OverNode {R : VK} {Kp : PK} {p0 : Value} {w : World} (h : n_trommelmem_OverNode R Kp p0 w) : Calls Tryd.prog 44 #[p0] w (callR R Kp) :=
  calls_of_N (an := a_trommelmem_OverNode) (args := [p0]) mixed_N1 Tryd.func44 (by kernel_rfl) (by kernel_rfl) (by kernel_rfl) (e_trommelmem_OverNode R Kp p0 w) h

/-- trommel/tree.Depth -/
def n_tree_Depth (R : VK) (Kp : PK) (p0 : Value) (w : World) : Prop :=
  oBox Tryd.prog 35 p0 Kp w fun t1 w =>  -- tree.go:72
  oFA Tryd.prog 35 t1 2 Kp w fun t6 w =>  -- tree.go:74
  oLoad Tryd.prog 33 t6 Kp w fun t7 w =>  -- tree.go:74
  oBI Tryd.prog Go.Builtin.len #[33] 3 [false] [t7] Kp w fun t8 w =>  -- tree.go:74
  nLoop [3, 9] [(Go.Value.int Go.IntKind.i64 0), (Go.Value.int Go.IntKind.i64 0)] w (fun f1 ag1 w =>  -- 3=most, 9=
   oBin Tryd.prog Go.BinOp.lss 3 (Go.Operand.tmp 9) (Go.Operand.tmp 8) (f1 9) t8 Kp w fun t10 w =>  -- tree.go:74
   oCond t10 (
    oIA Tryd.prog 33 t7 (f1 9) Kp w fun t11 w =>  -- tree.go:74
    oLoad Tryd.prog 35 t11 Kp w fun t12 w =>  -- tree.go:74
    oAlloc Tryd.prog 35 Kp w fun t5 w =>  -- tree.go:74
    oStore Tryd.prog 35 t5 t12 Kp w fun _t w =>  -- tree.go:74
    oLoad Tryd.prog 35 t5 Kp w fun t14 w =>  -- tree.go:75
    oCall Tryd.prog 45 [t14] Kp w fun t15 w =>  -- tree.go:75
    oBI Tryd.prog Go.Builtin.max #[3, 3] 3 [false, false] [(f1 3), t15] Kp w fun t16 w =>  -- tree.go:75
    oBin Tryd.prog Go.BinOp.add 3 (Go.Operand.tmp 9) (Go.Operand.const (Go.Value.int Go.IntKind.i64 1)) (f1 9) (Go.Value.int Go.IntKind.i64 1) Kp w fun t17 w =>  -- tree.go:74
    ag1 [t16, t17] w) (
    oBin Tryd.prog Go.BinOp.add 3 (Go.Operand.tmp 18) (Go.Operand.const (Go.Value.int Go.IntKind.i64 1)) (f1 3) (Go.Value.int Go.IntKind.i64 1) Kp w fun t19 w =>  -- tree.go:77
    R t19 w))
def a_tree_Depth : Ann := ⟨[(3, [3, 9], 261672)], [], [], []⟩
theorem e_tree_Depth (R : VK) (Kp : PK) (p0 : Value) (w : World) : W Tryd.prog a_tree_Depth Kp (bodyOf Tryd.f45) (retQ Tryd.prog Tryd.f45.results.toList R) (env0 [p0]) w = n_tree_Depth R Kp p0 w := by kernel_rfl
theorem c_tree_Depth {R : VK} {Kp : PK} {p0 : Value} {w : World} (h : n_tree_Depth R Kp p0 w) : Calls Tryd.prog 45 #[p0] w (callR R Kp) :=
  calls_of_N (an := a_tree_Depth) (args := [p0]) mixed_N1 Tryd.func45 (by kernel_rfl) (by kernel_rfl) (by kernel_rfl) (e_tree_Depth R Kp p0 w) h

/-- trommel/tree.Size -/
def n_tree_Size (R : VK) (Kp : PK) (p0 : Value) (w : World) : Prop :=
  oBox Tryd.prog 35 p0 Kp w fun t1 w =>  -- tree.go:81
  oFA Tryd.prog 35 t1 2 Kp w fun t6 w =>  -- tree.go:83
  oLoad Tryd.prog 33 t6 Kp w fun t7 w =>  -- tree.go:83
  oBI Tryd.prog Go.Builtin.len #[33] 3 [false] [t7] Kp w fun t8 w =>  -- tree.go:83
  nLoop [3, 9] [(Go.Value.int Go.IntKind.i64 1), (Go.Value.int Go.IntKind.i64 0)] w (fun f1 ag1 w =>  -- 3=sum, 9=
   oBin Tryd.prog Go.BinOp.lss 3 (Go.Operand.tmp 9) (Go.Operand.tmp 8) (f1 9) t8 Kp w fun t10 w =>  -- tree.go:83
   oCond t10 (
    oIA Tryd.prog 33 t7 (f1 9) Kp w fun t11 w =>  -- tree.go:83
    oLoad Tryd.prog 35 t11 Kp w fun t12 w =>  -- tree.go:83
    oAlloc Tryd.prog 35 Kp w fun t5 w =>  -- tree.go:83
    oStore Tryd.prog 35 t5 t12 Kp w fun _t w =>  -- tree.go:83
    oLoad Tryd.prog 35 t5 Kp w fun t14 w =>  -- tree.go:84
    oCall Tryd.prog 46 [t14] Kp w fun t15 w =>  -- tree.go:84
    oBin Tryd.prog Go.BinOp.add 3 (Go.Operand.tmp 13) (Go.Operand.tmp 15) (f1 3) t15 Kp w fun t16 w =>  -- tree.go:84
    oBin Tryd.prog Go.BinOp.add 3 (Go.Operand.tmp 9) (Go.Operand.const (Go.Value.int Go.IntKind.i64 1)) (f1 9) (Go.Value.int Go.IntKind.i64 1) Kp w fun t17 w =>  -- tree.go:83
    ag1 [t16, t17] w) (
    R (f1 3) w))
def a_tree_Size : Ann := ⟨[(3, [3, 9], 261672)], [], [], []⟩
theorem e_tree_Size (R : VK) (Kp : PK) (p0 : Value) (w : World) : W Tryd.prog a_tree_Size Kp (bodyOf Tryd.f46) (retQ Tryd.prog Tryd.f46.results.toList R) (env0 [p0]) w = n_tree_Size R Kp p0 w := by kernel_rfl
theorem c_tree_Size {R : VK} {Kp : PK} {p0 : Value} {w : World} (h : n_tree_Size R Kp p0 w) : Calls Tryd.prog 46 #[p0] w (callR R Kp) :=
  calls_of_N (an := a_tree_Size) (args := [p0]) mixed_N1 Tryd.func46 (by kernel_rfl) (by kernel_rfl) (by kernel_rfl) (e_tree_Size R Kp p0 w) h

end Go.Proofs.YtlbihkgfejgefaaDoor
