/- Printed by mill.py (a program of ours): the bodies of Go functions as plain texts over the model's operations, each with its equation. -/
import Derived.Test.YtlbihkgfejgefaaDoorL5
import Derived.Test.YtlbihkgfejgefaaDoorProg
namespace Go.Proofs.YtlbihkgfejgefaaDoor
open Go L
set_option maxRecDepth 100000
set_option linter.unusedVariables false

theorem mixed_N4 : Tryd.prog.follows .mixedOrders = true := by kernel_rfl

/-- trommel/schema.letter -/
def n_schema_letter (R : VK) (Kp : PK) (p0 : Value) (w : World) : Prop :=
  oBin Tryd.prog Go.BinOp.geq 5 (Go.Operand.tmp 3) (Go.Operand.const (Go.Value.int Go.IntKind.u8 97)) p0 (Go.Value.int Go.IntKind.u8 97) Kp w fun t4 w =>  -- schema.go:17
  oG (isB t4 true) (fun K => K p0 w) (fun t6 w =>  -- schema.go:17
  oG (isB t4 true) (fun K => oBin Tryd.prog Go.BinOp.leq 5 (Go.Operand.tmp 6) (Go.Operand.const (Go.Value.int Go.IntKind.u8 122)) t6 (Go.Value.int Go.IntKind.u8 122) Kp w K) (fun t7 w =>  -- schema.go:17
  oPick Tryd.prog t4 t7 (Go.Value.bool Bool.false) Kp w fun t8 w =>  -- schema.go:17
  R t8 w) w) w
def a_schema_letter : Ann := ⟨[], [], [], []⟩
theorem e_schema_letter (R : VK) (Kp : PK) (p0 : Value) (w : World) : W Tryd.prog a_schema_letter Kp (bodyOf Tryd.f110) (retQ Tryd.prog Tryd.f110.results.toList R) (env0 [p0]) w = n_schema_letter R Kp p0 w := by kernel_rfl
theorem c_schema_letter {R : VK} {Kp : PK} {p0 : Value} {w : World} (h : n_schema_letter R Kp p0 w) : Calls Tryd.prog 110 #[p0] w (callR R Kp) :=
  calls_of_N (an := a_schema_letter) (args := [p0]) mixed_N4 Tryd.func110 (by kernel_rfl) (by kernel_rfl) (by kernel_rfl) (e_schema_letter R Kp p0 w) h

/-- trommel/trommelref01.loose -/
def n_trommelref01_loose (R : VK) (Kp : PK) (p0 : Value) (w : World) : Prop :=
  nLoop [3, 4] [(Go.Value.slice Option.none 0 0), (Go.Value.int Go.IntKind.i64 1)] w (fun f1 ag1 w =>  -- 3=out, 4=i
   oBI Tryd.prog Go.Builtin.len #[9] 3 [false] [p0] Kp w fun t7 w =>  -- ref.go:81
   oBin Tryd.prog Go.BinOp.sub 3 (Go.Operand.tmp 7) (Go.Operand.const (Go.Value.int Go.IntKind.i64 1)) t7 (Go.Value.int Go.IntKind.i64 1) Kp w fun t8 w =>  -- ref.go:81
   oBin Tryd.prog Go.BinOp.lss 3 (Go.Operand.tmp 5) (Go.Operand.tmp 8) (f1 4) t8 Kp w fun t9 w =>  -- ref.go:81
   oCond t9 (
    nCut [3, 4] (fun M2 =>
     oIX Tryd.prog 9 p0 (f1 4) Kp w fun t14 w =>  -- ref.go:82
     oBin Tryd.prog Go.BinOp.neq 5 (Go.Operand.tmp 14) (Go.Operand.const (Go.Value.int Go.IntKind.u8 92)) t14 (Go.Value.int Go.IntKind.u8 92) Kp w fun t15 w =>  -- ref.go:82
     oCond t15 (
      oIX Tryd.prog 9 p0 (f1 4) Kp w fun t19 w =>  -- ref.go:83
      oBuildS Tryd.prog 81 1 [(0, t19)] Kp w fun t20 w =>  -- ref.go:83
      oBI Tryd.prog Go.Builtin.append #[81, 81] 81 [false, false] [(f1 3), t20] Kp w fun t21 w =>  -- ref.go:83
      M2 [t21, (f1 4)] w) (
      oBin Tryd.prog Go.BinOp.add 3 (Go.Operand.tmp 23) (Go.Operand.const (Go.Value.int Go.IntKind.i64 1)) (f1 4) (Go.Value.int Go.IntKind.i64 1) Kp w fun t24 w =>  -- ref.go:86
      oIX Tryd.prog 9 p0 t24 Kp w fun t25 w =>  -- ref.go:86
      oBin Tryd.prog Go.BinOp.eql 5 (Go.Operand.tmp 25) (Go.Operand.const (Go.Value.int Go.IntKind.u8 120)) t25 (Go.Value.int Go.IntKind.u8 120) Kp w fun t26 w =>  -- ref.go:86
      oG (isB t26 true) (fun K => K (f1 4) w) (fun t28 w =>  -- ref.go:86
      oG (isB t26 true) (fun K => oBin Tryd.prog Go.BinOp.add 3 (Go.Operand.tmp 28) (Go.Operand.const (Go.Value.int Go.IntKind.i64 3)) t28 (Go.Value.int Go.IntKind.i64 3) Kp w K) (fun t29 w =>  -- ref.go:86
      oG (isB t26 true) (fun K => K p0 w) (fun t30 w =>  -- ref.go:86
      oG (isB t26 true) (fun K => oBI Tryd.prog Go.Builtin.len #[9] 3 [false] [t30] Kp w K) (fun t31 w =>  -- ref.go:86
      oG (isB t26 true) (fun K => oBin Tryd.prog Go.BinOp.lss 3 (Go.Operand.tmp 29) (Go.Operand.tmp 31) t29 t31 Kp w K) (fun t32 w =>  -- ref.go:86
      oPick Tryd.prog t26 t32 (Go.Value.bool Bool.false) Kp w fun t33 w =>  -- ref.go:86
      oCond t33 (
       oD (twin (f1 4) (Go.Value.int Go.IntKind.i64 2)) (oBin Tryd.prog Go.BinOp.add 3 (Go.Operand.tmp 36) (Go.Operand.const (Go.Value.int Go.IntKind.i64 2)) (f1 4) (Go.Value.int Go.IntKind.i64 2) noP w.drew (fun t37 w =>  -- ref.go:87
       oIX Tryd.prog 9 p0 t37 noP w fun t38 w =>  -- ref.go:87
       oCall Tryd.prog 136 [t38] noP w fun t39 w =>  -- ref.go:87
       oD (twin t39 (Go.Value.int Go.IntKind.u8 16)) (oBin Tryd.prog Go.BinOp.mul 5 (Go.Operand.tmp 39) (Go.Operand.const (Go.Value.int Go.IntKind.u8 16)) t39 (Go.Value.int Go.IntKind.u8 16) noP w (fun t40 w =>  -- ref.go:87
       oD (twin (f1 4) (Go.Value.int Go.IntKind.i64 3)) (oBin Tryd.prog Go.BinOp.add 3 (Go.Operand.tmp 42) (Go.Operand.const (Go.Value.int Go.IntKind.i64 3)) (f1 4) (Go.Value.int Go.IntKind.i64 3) noP w (fun t43 w =>  -- ref.go:87
       oIX Tryd.prog 9 p0 t43 noP w fun t44 w =>  -- ref.go:87
       oCall Tryd.prog 136 [t44] noP w fun t45 w =>  -- ref.go:87
       oD (twin t40 t45) (oBin Tryd.prog Go.BinOp.add 5 (Go.Operand.tmp 40) (Go.Operand.tmp 45) t40 t45 noP w (fun t46 w =>  -- ref.go:87
       oBuildS Tryd.prog 81 1 [(0, t46)] noP w fun t47 w =>  -- ref.go:87
       oBI Tryd.prog Go.Builtin.append #[81, 81] 81 [false, false] [(f1 3), t47] noP w fun t48 w =>  -- ref.go:87
       oBin Tryd.prog Go.BinOp.add 3 (Go.Operand.tmp 49) (Go.Operand.const (Go.Value.int Go.IntKind.i64 3)) (f1 4) (Go.Value.int Go.IntKind.i64 3) Kp w fun t50 w =>  -- ref.go:88
       M2 [t48, t50] w))))))))) (
       oBin Tryd.prog Go.BinOp.add 3 (Go.Operand.tmp 53) (Go.Operand.const (Go.Value.int Go.IntKind.i64 1)) (f1 4) (Go.Value.int Go.IntKind.i64 1) Kp w fun t54 w =>  -- ref.go:91
       oIX Tryd.prog 9 p0 t54 Kp w fun t55 w =>  -- ref.go:91
       oBuildS Tryd.prog 81 1 [(0, t55)] Kp w fun t56 w =>  -- ref.go:91
       oBI Tryd.prog Go.Builtin.append #[81, 81] 81 [false, false] [(f1 3), t56] Kp w fun t57 w =>  -- ref.go:91
       oBin Tryd.prog Go.BinOp.add 3 (Go.Operand.tmp 58) (Go.Operand.const (Go.Value.int Go.IntKind.i64 1)) (f1 4) (Go.Value.int Go.IntKind.i64 1) Kp w fun t59 w =>  -- ref.go:92
       M2 [t57, t59] w)) w) w) w) w) w))
    (fun g2 w =>
     oBin Tryd.prog Go.BinOp.add 3 (Go.Operand.tmp 10) (Go.Operand.const (Go.Value.int Go.IntKind.i64 1)) (g2 4) (Go.Value.int Go.IntKind.i64 1) Kp w fun t11 w =>  -- ref.go:81
     ag1 [(g2 3), t11] w)) (
    oCV Tryd.prog 81 9 (f1 3) Kp w fun t61 w =>  -- ref.go:94
    R t61 w))
def a_trommelref01_loose : Ann := ⟨[(3, [3, 4], 1152921504606846968)], [(4, [3, 4], 1152921504606842904)], [], []⟩
theorem e_trommelref01_loose (R : VK) (Kp : PK) (p0 : Value) (w : World) : W Tryd.prog a_trommelref01_loose Kp (bodyOf Tryd.f99) (retQ Tryd.prog Tryd.f99.results.toList R) (env0 [p0]) w = n_trommelref01_loose R Kp p0 w := by kernel_rfl
theorem c_trommelref01_loose {R : VK} {Kp : PK} {p0 : Value} {w : World} (h : n_trommelref01_loose R Kp p0 w) : Calls Tryd.prog 99 #[p0] w (callR R Kp) :=
  calls_of_N (an := a_trommelref01_loose) (args := [p0]) mixed_N4 Tryd.func99 (by kernel_rfl) (by kernel_rfl) (by kernel_rfl) (e_trommelref01_loose R Kp p0 w) h

/-- strings.HasPrefix -/
def n_strings_HasPrefix (R : VK) (Kp : PK) (p0 p1 : Value) (w : World) : Prop :=
  oCall Tryd.prog 137 [p0, p1] Kp w fun t7 w =>  -- strings.go:502
  R t7 w
def a_strings_HasPrefix : Ann := ⟨[], [], [], []⟩
theorem e_strings_HasPrefix (R : VK) (Kp : PK) (p0 p1 : Value) (w : World) : W Tryd.prog a_strings_HasPrefix Kp (bodyOf Tryd.f100) (retQ Tryd.prog Tryd.f100.results.toList R) (env0 [p0, p1]) w = n_strings_HasPrefix R Kp p0 p1 w := by kernel_rfl
theorem c_strings_HasPrefix {R : VK} {Kp : PK} {p0 p1 : Value} {w : World} (h : n_strings_HasPrefix R Kp p0 p1 w) : Calls Tryd.prog 100 #[p0, p1] w (callR R Kp) :=
  calls_of_N (an := a_strings_HasPrefix) (args := [p0, p1]) mixed_N4 Tryd.func100 (by kernel_rfl) (by kernel_rfl) (by kernel_rfl) (e_strings_HasPrefix R Kp p0 p1 w) h

/-- internal/stringslite.HasPrefix -/
def n_internal_stringslite_HasPrefix (R : VK) (Kp : PK) (p0 p1 : Value) (w : World) : Prop :=
  oBI Tryd.prog Go.Builtin.len #[9] 3 [false] [p0] Kp w fun t6 w =>  -- strings.go:17
  oBI Tryd.prog Go.Builtin.len #[9] 3 [false] [p1] Kp w fun t8 w =>  -- strings.go:17
  oBin Tryd.prog Go.BinOp.geq 3 (Go.Operand.tmp 6) (Go.Operand.tmp 8) t6 t8 Kp w fun t9 w =>  -- strings.go:17
  oG (isB t9 true) (fun K => K p0 w) (fun t11 w =>  -- strings.go:17
  oG (isB t9 true) (fun K => K p1 w) (fun t12 w =>  -- strings.go:17
  oG (isB t9 true) (fun K => oBI Tryd.prog Go.Builtin.len #[9] 3 [false] [t12] Kp w K) (fun t13 w =>  -- strings.go:17
  oG (isB t9 true) (fun K => oSL Tryd.prog 9 t11 none (some t13) none Kp w K) (fun t14 w =>  -- strings.go:17
  oG (isB t9 true) (fun K => K p1 w) (fun t15 w =>  -- strings.go:17
  oG (isB t9 true) (fun K => oBin Tryd.prog Go.BinOp.eql 9 (Go.Operand.tmp 14) (Go.Operand.tmp 15) t14 t15 Kp w K) (fun t16 w =>  -- strings.go:17
  oPick Tryd.prog t9 t16 (Go.Value.bool Bool.false) Kp w fun t17 w =>  -- strings.go:17
  R t17 w) w) w) w) w) w) w
def a_internal_stringslite_HasPrefix : Ann := ⟨[], [], [], []⟩
theorem e_internal_stringslite_HasPrefix (R : VK) (Kp : PK) (p0 p1 : Value) (w : World) : W Tryd.prog a_internal_stringslite_HasPrefix Kp (bodyOf Tryd.f137) (retQ Tryd.prog Tryd.f137.results.toList R) (env0 [p0, p1]) w = n_internal_stringslite_HasPrefix R Kp p0 p1 w := by kernel_rfl
theorem c_internal_stringslite_HasPrefix {R : VK} {Kp : PK} {p0 p1 : Value} {w : World} (h : n_internal_stringslite_HasPrefix R Kp p0 p1 w) : Calls Tryd.prog 137 #[p0, p1] w (callR R Kp) :=
  calls_of_N (an := a_internal_stringslite_HasPrefix) (args := [p0, p1]) mixed_N4 Tryd.func137 (by kernel_rfl) (by kernel_rfl) (by kernel_rfl) (e_internal_stringslite_HasPrefix R Kp p0 p1 w) h

/-- trommel/trommelref01.Quote -/
def n_trommelref01_Quote (R : VK) (Kp : PK) (p0 : Value) (w : World) : Prop :=
  oBuildS Tryd.prog 81 1 [(0, (Go.Value.int Go.IntKind.u8 34))] Kp w fun t6 w =>  -- ref.go:53
  nLoop [3, 4] [t6, (Go.Value.int Go.IntKind.i64 0)] w (fun f1 ag1 w =>  -- 3=out, 4=i
   oBI Tryd.prog Go.Builtin.len #[9] 3 [false] [p0] Kp w fun t9 w =>  -- ref.go:54
   oBin Tryd.prog Go.BinOp.lss 3 (Go.Operand.tmp 7) (Go.Operand.tmp 9) (f1 4) t9 Kp w fun t10 w =>  -- ref.go:54
   oCond t10 (
    nCut [3] (fun M2 =>
     oIX Tryd.prog 9 p0 (f1 4) Kp w fun t15 w =>  -- ref.go:55
     oBin Tryd.prog Go.BinOp.lss 5 (Go.Operand.tmp 16) (Go.Operand.const (Go.Value.int Go.IntKind.u8 32)) t15 (Go.Value.int Go.IntKind.u8 32) Kp w fun t17 w =>  -- ref.go:56
     oG (isB t17 false) (fun K => K t15 w) (fun t19 w =>  -- ref.go:56
     oG (isB t17 false) (fun K => oBin Tryd.prog Go.BinOp.gtr 5 (Go.Operand.tmp 19) (Go.Operand.const (Go.Value.int Go.IntKind.u8 126)) t19 (Go.Value.int Go.IntKind.u8 126) Kp w K) (fun t20 w =>  -- ref.go:56
     oPick Tryd.prog t17 (Go.Value.bool Bool.true) t20 Kp w fun t21 w =>  -- ref.go:56
     oCond t21 (
      oD (twin t15 (Go.Value.int Go.IntKind.u8 16)) (oBin Tryd.prog Go.BinOp.quo 5 (Go.Operand.tmp 23) (Go.Operand.const (Go.Value.int Go.IntKind.u8 16)) t15 (Go.Value.int Go.IntKind.u8 16) noP w.drew (fun t24 w =>  -- ref.go:57
      oIX Tryd.prog 9 (Go.Value.string (ByteArray.mk #[48, 49, 50, 51, 52, 53, 54, 55, 56, 57, 97, 98, 99, 100, 101, 102])) t24 noP w fun t25 w =>  -- ref.go:57
      oD (twin t15 (Go.Value.int Go.IntKind.u8 16)) (oBin Tryd.prog Go.BinOp.rem 5 (Go.Operand.tmp 26) (Go.Operand.const (Go.Value.int Go.IntKind.u8 16)) t15 (Go.Value.int Go.IntKind.u8 16) noP w (fun t27 w =>  -- ref.go:57
      oIX Tryd.prog 9 (Go.Value.string (ByteArray.mk #[48, 49, 50, 51, 52, 53, 54, 55, 56, 57, 97, 98, 99, 100, 101, 102])) t27 noP w fun t28 w =>  -- ref.go:57
      oBuildS Tryd.prog 81 4 [(0, (Go.Value.int Go.IntKind.u8 92)), (1, (Go.Value.int Go.IntKind.u8 120)), (2, t25), (3, t28)] noP w fun t29 w =>  -- ref.go:57
      oBI Tryd.prog Go.Builtin.append #[81, 81] 81 [false, false] [(f1 3), t29] noP w fun t30 w =>  -- ref.go:57
      M2 [t30] w))))) (
      nCut [3] (fun M3 =>
       oBin Tryd.prog Go.BinOp.eql 5 (Go.Operand.tmp 31) (Go.Operand.const (Go.Value.int Go.IntKind.u8 34)) t15 (Go.Value.int Go.IntKind.u8 34) Kp w fun t32 w =>  -- ref.go:60
       oG (isB t32 false) (fun K => K t15 w) (fun t34 w =>  -- ref.go:60
       oG (isB t32 false) (fun K => oBin Tryd.prog Go.BinOp.eql 5 (Go.Operand.tmp 34) (Go.Operand.const (Go.Value.int Go.IntKind.u8 92)) t34 (Go.Value.int Go.IntKind.u8 92) Kp w K) (fun t35 w =>  -- ref.go:60
       oPick Tryd.prog t32 (Go.Value.bool Bool.true) t35 Kp w fun t36 w =>  -- ref.go:60
       oCond t36 (
        oBuildS Tryd.prog 81 1 [(0, (Go.Value.int Go.IntKind.u8 92))] Kp w fun t38 w =>  -- ref.go:61
        oBI Tryd.prog Go.Builtin.append #[81, 81] 81 [false, false] [(f1 3), t38] Kp w fun t39 w =>  -- ref.go:61
        M3 [t39] w) (
        M3 [(f1 3)] w)) w) w)
      (fun g3 w =>
       oBuildS Tryd.prog 81 1 [(0, t15)] Kp w fun t42 w =>  -- ref.go:63
       oBI Tryd.prog Go.Builtin.append #[81, 81] 81 [false, false] [(g3 3), t42] Kp w fun t43 w =>  -- ref.go:63
       M2 [t43] w))) w) w)
    (fun g2 w =>
     oBin Tryd.prog Go.BinOp.add 3 (Go.Operand.tmp 11) (Go.Operand.const (Go.Value.int Go.IntKind.i64 1)) (f1 4) (Go.Value.int Go.IntKind.i64 1) Kp w fun t12 w =>  -- ref.go:54
     ag1 [(g2 3), t12] w)) (
    oBuildS Tryd.prog 81 1 [(0, (Go.Value.int Go.IntKind.u8 34))] Kp w fun t45 w =>  -- ref.go:65
    oBI Tryd.prog Go.Builtin.append #[81, 81] 81 [false, false] [(f1 3), t45] Kp w fun t46 w =>  -- ref.go:65
    oCV Tryd.prog 81 9 t46 Kp w fun t47 w =>  -- ref.go:65
    R t47 w))
def a_trommelref01_Quote : Ann := ⟨[(3, [3, 4], 17592186044344)], [(4, [3], 17592186036264), (10, [3], 1097364144136)], [], []⟩
theorem e_trommelref01_Quote (R : VK) (Kp : PK) (p0 : Value) (w : World) : W Tryd.prog a_trommelref01_Quote Kp (bodyOf Tryd.f56) (retQ Tryd.prog Tryd.f56.results.toList R) (env0 [p0]) w = n_trommelref01_Quote R Kp p0 w := by kernel_rfl
theorem c_trommelref01_Quote {R : VK} {Kp : PK} {p0 : Value} {w : World} (h : n_trommelref01_Quote R Kp p0 w) : Calls Tryd.prog 56 #[p0] w (callR R Kp) :=
  calls_of_N (an := a_trommelref01_Quote) (args := [p0]) mixed_N4 Tryd.func56 (by kernel_rfl) (by kernel_rfl) (by kernel_rfl) (e_trommelref01_Quote R Kp p0 w) h

/-- trommel/trommelref01.Unquote -/
def n_trommelref01_Unquote (R : VK) (Kp : PK) (p0 : Value) (w : World) : Prop :=
  oCall Tryd.prog 99 [p0] Kp w fun t6 w =>  -- ref.go:99
  oCall Tryd.prog 56 [t6] Kp w fun t8 w =>  -- ref.go:100
  oBin Tryd.prog Go.BinOp.neq 9 (Go.Operand.tmp 8) (Go.Operand.tmp 9) t8 p0 Kp w fun t10 w =>  -- ref.go:100
  oCond t10 (
   R (Go.Value.tuple #[(Go.Value.string (ByteArray.mk #[])), (Go.Value.int Go.IntKind.i64 10)]) w) (
   R (Go.Value.tuple #[t6, (Go.Value.int Go.IntKind.i64 0)]) w)
def a_trommelref01_Unquote : Ann := ⟨[], [], [], []⟩
theorem e_trommelref01_Unquote (R : VK) (Kp : PK) (p0 : Value) (w : World) : W Tryd.prog a_trommelref01_Unquote Kp (bodyOf Tryd.f57) (retQ Tryd.prog Tryd.f57.results.toList R) (env0 [p0]) w = n_trommelref01_Unquote R Kp p0 w := by kernel_rfl
theorem c_trommelref01_Unquote {R : VK} {Kp : PK} {p0 : Value} {w : World} (h : n_trommelref01_Unquote R Kp p0 w) : Calls Tryd.prog 57 #[p0] w (callR R Kp) :=
  calls_of_N (an := a_trommelref01_Unquote) (args := [p0]) mixed_N4 Tryd.func57 (by kernel_rfl) (by kernel_rfl) (by kernel_rfl) (e_trommelref01_Unquote R Kp p0 w) h

end Go.Proofs.YtlbihkgfejgefaaDoor
