/- Printed by mill.py (a program of ours): the bodies of Go functions as plain texts over the model's operations, each with its equation. -/
import Derived.Test.YtlbihkgfejgefaaDoorL5
import Derived.Test.YtlbihkgfejgefaaDoorProg
namespace Go.Proofs.YtlbihkgfejgefaaDoor
open Go L
set_option maxRecDepth 100000
set_option linter.unusedVariables false

theorem mixed_N3 : Tryd.prog.follows .mixedOrders = true := by kernel_rfl

/-- trommel/value.Quote -/
def n_value_Quote (R : VK) (Kp : PK) (p0 : Value) (w : World) : Prop :=
  oAlloc Tryd.prog 104 Kp w fun t3 w =>  -- value.go:42
  oCall Tryd.prog 94 [t3, (Go.Value.int Go.IntKind.u8 34)] Kp w fun t6 w =>  -- value.go:43
  oBI Tryd.prog Go.Builtin.len #[9] 3 [false] [p0] Kp w fun t8 w =>  -- value.go:44
  nLoop [9] [(Go.Value.int Go.IntKind.i64 0)] w (fun f1 ag1 w =>  -- 9=
   oBin Tryd.prog Go.BinOp.lss 3 (Go.Operand.tmp 9) (Go.Operand.tmp 8) (f1 9) t8 Kp w fun t10 w =>  -- value.go:44
   oCond t10 (
    oIX Tryd.prog 9 p0 (f1 9) Kp w fun t14 w =>  -- value.go:45
    oCall Tryd.prog 95 [t14] Kp w fun t26 w =>  -- value.go:47
    oCond t26 (
     oCall Tryd.prog 94 [t3, t14] Kp w fun t28 w =>  -- value.go:48
     oBin Tryd.prog Go.BinOp.add 3 (Go.Operand.tmp 9) (Go.Operand.const (Go.Value.int Go.IntKind.i64 1)) (f1 9) (Go.Value.int Go.IntKind.i64 1) Kp w fun t39 w =>  -- value.go:44
     ag1 [t39] w) (
     oBin Tryd.prog Go.BinOp.eql 5 (Go.Operand.tmp 30) (Go.Operand.const (Go.Value.int Go.IntKind.u8 34)) t14 (Go.Value.int Go.IntKind.u8 34) Kp w fun t31 w =>  -- value.go:49
     oG (isB t31 false) (fun K => K t14 w) (fun t33 w =>  -- value.go:49
     oG (isB t31 false) (fun K => oBin Tryd.prog Go.BinOp.eql 5 (Go.Operand.tmp 33) (Go.Operand.const (Go.Value.int Go.IntKind.u8 92)) t33 (Go.Value.int Go.IntKind.u8 92) Kp w K) (fun t34 w =>  -- value.go:49
     oPick Tryd.prog t31 (Go.Value.bool Bool.true) t34 Kp w fun t35 w =>  -- value.go:49
     oCond t35 (
      oCall Tryd.prog 94 [t3, (Go.Value.int Go.IntKind.u8 92)] Kp w fun t36 w =>  -- value.go:50
      oCall Tryd.prog 94 [t3, t14] Kp w fun t38 w =>  -- value.go:51
      oBin Tryd.prog Go.BinOp.add 3 (Go.Operand.tmp 9) (Go.Operand.const (Go.Value.int Go.IntKind.i64 1)) (f1 9) (Go.Value.int Go.IntKind.i64 1) Kp w fun t39 w =>  -- value.go:44
      ag1 [t39] w) (
      oCall Tryd.prog 96 [t3, (Go.Value.string (ByteArray.mk #[92, 120]))] Kp w fun t15 w =>  -- value.go:53
      oBin Tryd.prog Go.BinOp.shr 5 (Go.Operand.tmp 16) (Go.Operand.const (Go.Value.int Go.IntKind.u64 4)) t14 (Go.Value.int Go.IntKind.u64 4) Kp w fun t17 w =>  -- value.go:54
      oIX Tryd.prog 9 (Go.Value.string (ByteArray.mk #[48, 49, 50, 51, 52, 53, 54, 55, 56, 57, 97, 98, 99, 100, 101, 102])) t17 Kp w fun t18 w =>  -- value.go:54
      oCall Tryd.prog 94 [t3, t18] Kp w fun t19 w =>  -- value.go:54
      oBin Tryd.prog Go.BinOp.and 5 (Go.Operand.tmp 20) (Go.Operand.const (Go.Value.int Go.IntKind.u8 15)) t14 (Go.Value.int Go.IntKind.u8 15) Kp w fun t21 w =>  -- value.go:55
      oIX Tryd.prog 9 (Go.Value.string (ByteArray.mk #[48, 49, 50, 51, 52, 53, 54, 55, 56, 57, 97, 98, 99, 100, 101, 102])) t21 Kp w fun t22 w =>  -- value.go:55
      oCall Tryd.prog 94 [t3, t22] Kp w fun t23 w =>  -- value.go:55
      oBin Tryd.prog Go.BinOp.add 3 (Go.Operand.tmp 9) (Go.Operand.const (Go.Value.int Go.IntKind.i64 1)) (f1 9) (Go.Value.int Go.IntKind.i64 1) Kp w fun t39 w =>  -- value.go:44
      ag1 [t39] w)) w) w)) (
    oCall Tryd.prog 94 [t3, (Go.Value.int Go.IntKind.u8 34)] Kp w fun t40 w =>  -- value.go:58
    oCall Tryd.prog 97 [t3] Kp w fun t41 w =>  -- value.go:59
    R t41 w))
def a_value_Quote : Ann := ⟨[(4, [9], 1099511627312)], [], [], []⟩
theorem e_value_Quote (R : VK) (Kp : PK) (p0 : Value) (w : World) : W Tryd.prog a_value_Quote Kp (bodyOf Tryd.f54) (retQ Tryd.prog Tryd.f54.results.toList R) (env0 [p0]) w = n_value_Quote R Kp p0 w := by kernel_rfl
theorem c_value_Quote {R : VK} {Kp : PK} {p0 : Value} {w : World} (h : n_value_Quote R Kp p0 w) : Calls Tryd.prog 54 #[p0] w (callR R Kp) :=
  calls_of_N (an := a_value_Quote) (args := [p0]) mixed_N3 Tryd.func54 (by kernel_rfl) (by kernel_rfl) (by kernel_rfl) (e_value_Quote R Kp p0 w) h

/-- (*strings.Builder).WriteByte -/
def n_strings_Builder_WriteByte (R : VK) (Kp : PK) (p0 p1 : Value) (w : World) : Prop :=
  oCall Tryd.prog 135 [p0] Kp w fun t6 w =>  -- builder.go:96
  oNil Tryd.prog p0 Kp w fun t9 w =>  -- builder.go:97
  oFA Tryd.prog 104 t9 1 Kp w fun t10 w =>  -- builder.go:97
  oLoad Tryd.prog 81 t10 Kp w fun t11 w =>  -- builder.go:97
  oBuildS Tryd.prog 81 1 [(0, p1)] Kp w fun t13 w =>  -- builder.go:97
  oBI Tryd.prog Go.Builtin.append #[81, 81] 81 [false, false] [t11, t13] Kp w fun t14 w =>  -- builder.go:97
  oNil Tryd.prog p0 Kp w fun t15 w =>  -- builder.go:97
  oFA Tryd.prog 104 t15 1 Kp w fun t16 w =>  -- builder.go:97
  oStore Tryd.prog 81 t16 t14 Kp w fun _t w =>  -- builder.go:97
  R Go.Value.nilIface w
def a_strings_Builder_WriteByte : Ann := ⟨[], [], [], []⟩
theorem e_strings_Builder_WriteByte (R : VK) (Kp : PK) (p0 p1 : Value) (w : World) : W Tryd.prog a_strings_Builder_WriteByte Kp (bodyOf Tryd.f94) (retQ Tryd.prog Tryd.f94.results.toList R) (env0 [p0, p1]) w = n_strings_Builder_WriteByte R Kp p0 p1 w := by kernel_rfl
theorem c_strings_Builder_WriteByte {R : VK} {Kp : PK} {p0 p1 : Value} {w : World} (h : n_strings_Builder_WriteByte R Kp p0 p1 w) : Calls Tryd.prog 94 #[p0, p1] w (callR R Kp) :=
  calls_of_N (an := a_strings_Builder_WriteByte) (args := [p0, p1]) mixed_N3 Tryd.func94 (by kernel_rfl) (by kernel_rfl) (by kernel_rfl) (e_strings_Builder_WriteByte R Kp p0 p1 w) h

/-- trommel/value.plain -/
def n_value_plain (R : VK) (Kp : PK) (p0 : Value) (w : World) : Prop :=
  oBin Tryd.prog Go.BinOp.geq 5 (Go.Operand.tmp 3) (Go.Operand.const (Go.Value.int Go.IntKind.u8 32)) p0 (Go.Value.int Go.IntKind.u8 32) Kp w fun t4 w =>  -- value.go:38
  oG (isB t4 true) (fun K => K p0 w) (fun t6 w =>  -- value.go:38
  oG (isB t4 true) (fun K => oBin Tryd.prog Go.BinOp.leq 5 (Go.Operand.tmp 6) (Go.Operand.const (Go.Value.int Go.IntKind.u8 126)) t6 (Go.Value.int Go.IntKind.u8 126) Kp w K) (fun t7 w =>  -- value.go:38
  oPick Tryd.prog t4 t7 (Go.Value.bool Bool.false) Kp w fun t8 w =>  -- value.go:38
  oG (isB t8 true) (fun K => K p0 w) (fun t10 w =>  -- value.go:38
  oG (isB t8 true) (fun K => oBin Tryd.prog Go.BinOp.neq 5 (Go.Operand.tmp 10) (Go.Operand.const (Go.Value.int Go.IntKind.u8 34)) t10 (Go.Value.int Go.IntKind.u8 34) Kp w K) (fun t11 w =>  -- value.go:38
  oPick Tryd.prog t8 t11 (Go.Value.bool Bool.false) Kp w fun t12 w =>  -- value.go:38
  oG (isB t12 true) (fun K => K p0 w) (fun t14 w =>  -- value.go:38
  oG (isB t12 true) (fun K => oBin Tryd.prog Go.BinOp.neq 5 (Go.Operand.tmp 14) (Go.Operand.const (Go.Value.int Go.IntKind.u8 92)) t14 (Go.Value.int Go.IntKind.u8 92) Kp w K) (fun t15 w =>  -- value.go:38
  oPick Tryd.prog t12 t15 (Go.Value.bool Bool.false) Kp w fun t16 w =>  -- value.go:38
  R t16 w) w) w) w) w) w) w
def a_value_plain : Ann := ⟨[], [], [], []⟩
theorem e_value_plain (R : VK) (Kp : PK) (p0 : Value) (w : World) : W Tryd.prog a_value_plain Kp (bodyOf Tryd.f95) (retQ Tryd.prog Tryd.f95.results.toList R) (env0 [p0]) w = n_value_plain R Kp p0 w := by kernel_rfl
theorem c_value_plain {R : VK} {Kp : PK} {p0 : Value} {w : World} (h : n_value_plain R Kp p0 w) : Calls Tryd.prog 95 #[p0] w (callR R Kp) :=
  calls_of_N (an := a_value_plain) (args := [p0]) mixed_N3 Tryd.func95 (by kernel_rfl) (by kernel_rfl) (by kernel_rfl) (e_value_plain R Kp p0 w) h

/-- (*strings.Builder).WriteString -/
def n_strings_Builder_WriteString (R : VK) (Kp : PK) (p0 p1 : Value) (w : World) : Prop :=
  oCall Tryd.prog 135 [p0] Kp w fun t7 w =>  -- builder.go:113
  oNil Tryd.prog p0 Kp w fun t10 w =>  -- builder.go:114
  oFA Tryd.prog 104 t10 1 Kp w fun t11 w =>  -- builder.go:114
  oLoad Tryd.prog 81 t11 Kp w fun t12 w =>  -- builder.go:114
  oBI Tryd.prog Go.Builtin.append #[81, 9] 81 [false, false] [t12, p1] Kp w fun t14 w =>  -- builder.go:114
  oNil Tryd.prog p0 Kp w fun t15 w =>  -- builder.go:114
  oFA Tryd.prog 104 t15 1 Kp w fun t16 w =>  -- builder.go:114
  oStore Tryd.prog 81 t16 t14 Kp w fun _t w =>  -- builder.go:114
  oBI Tryd.prog Go.Builtin.len #[9] 3 [false] [p1] Kp w fun t18 w =>  -- builder.go:115
  R (Go.Value.tuple #[t18, Go.Value.nilIface]) w
def a_strings_Builder_WriteString : Ann := ⟨[], [], [], []⟩
theorem e_strings_Builder_WriteString (R : VK) (Kp : PK) (p0 p1 : Value) (w : World) : W Tryd.prog a_strings_Builder_WriteString Kp (bodyOf Tryd.f96) (retQ Tryd.prog Tryd.f96.results.toList R) (env0 [p0, p1]) w = n_strings_Builder_WriteString R Kp p0 p1 w := by kernel_rfl
theorem c_strings_Builder_WriteString {R : VK} {Kp : PK} {p0 p1 : Value} {w : World} (h : n_strings_Builder_WriteString R Kp p0 p1 w) : Calls Tryd.prog 96 #[p0, p1] w (callR R Kp) :=
  calls_of_N (an := a_strings_Builder_WriteString) (args := [p0, p1]) mixed_N3 Tryd.func96 (by kernel_rfl) (by kernel_rfl) (by kernel_rfl) (e_strings_Builder_WriteString R Kp p0 p1 w) h

/-- (*strings.Builder).String -/
def n_strings_Builder_String (R : VK) (Kp : PK) (p0 : Value) (w : World) : Prop :=
  ∃ S1 : World → Prop, S1 w.drew ∧
  oD (ptrish p0) (oNil Tryd.prog p0 noP w.drew (fun t4 w =>  -- builder.go:47
  oFA Tryd.prog 104 t4 1 noP w fun t5 w =>  -- builder.go:47
  oHL Tryd.prog S1 81 t5 w fun t6 w =>  -- builder.go:47
  oBI Tryd.prog Go.Builtin.unsafeSliceData #[81] 127 [false] [t6] noP w fun t7 w => S1 w ∧  -- builder.go:47
  oD (ptrish p0) (oNil Tryd.prog p0 noP w (fun t9 w =>  -- builder.go:47
  oFA Tryd.prog 104 t9 1 noP w fun t10 w =>  -- builder.go:47
  oHL Tryd.prog S1 81 t10 w fun t11 w =>  -- builder.go:47
  oD (lenOk [t11]) (oBI Tryd.prog Go.Builtin.len #[81] 3 [false] [t11] noP w (fun t12 w =>  -- builder.go:47
  oBI Tryd.prog Go.Builtin.unsafeString #[127, 3] 9 [false, false] [t7, t12] noP w fun t13 w =>  -- builder.go:47
  R t13 w))))))
def a_strings_Builder_String : Ann := ⟨[], [], [], []⟩
theorem e_strings_Builder_String (R : VK) (Kp : PK) (p0 : Value) (w : World) : W Tryd.prog a_strings_Builder_String Kp (bodyOf Tryd.f97) (retQ Tryd.prog Tryd.f97.results.toList R) (env0 [p0]) w = n_strings_Builder_String R Kp p0 w := by kernel_rfl
theorem c_strings_Builder_String {R : VK} {Kp : PK} {p0 : Value} {w : World} (h : n_strings_Builder_String R Kp p0 w) : Calls Tryd.prog 97 #[p0] w (callR R Kp) :=
  calls_of_N (an := a_strings_Builder_String) (args := [p0]) mixed_N3 Tryd.func97 (by kernel_rfl) (by kernel_rfl) (by kernel_rfl) (e_strings_Builder_String R Kp p0 w) h

/-- trommel/value.escaped -/
def n_value_escaped (R : VK) (Kp : PK) (p0 : Value) (w : World) : Prop :=
  oBI Tryd.prog Go.Builtin.len #[9] 3 [false] [p0] Kp w fun t8 w =>  -- value.go:64
  oBin Tryd.prog Go.BinOp.gtr 3 (Go.Operand.tmp 8) (Go.Operand.const (Go.Value.int Go.IntKind.i64 1)) t8 (Go.Value.int Go.IntKind.i64 1) Kp w fun t9 w =>  -- value.go:64
  oG (isB t9 true) (fun K => K p0 w) (fun t11 w =>  -- value.go:64
  oG (isB t9 true) (fun K => oIX Tryd.prog 9 t11 (Go.Value.int Go.IntKind.i64 1) Kp w K) (fun t12 w =>  -- value.go:64
  oG (isB t9 true) (fun K => oBin Tryd.prog Go.BinOp.eql 5 (Go.Operand.tmp 12) (Go.Operand.const (Go.Value.int Go.IntKind.u8 34)) t12 (Go.Value.int Go.IntKind.u8 34) Kp w K) (fun t13 w =>  -- value.go:64
  oG (isB t9 true) (fun K => K t13 w) (fun t14 w =>  -- value.go:64
  oG (isB t14 false) (fun K => K p0 w) (fun t15 w =>  -- value.go:64
  oG (isB t14 false) (fun K => oIX Tryd.prog 9 t15 (Go.Value.int Go.IntKind.i64 1) Kp w K) (fun t16 w =>  -- value.go:64
  oG (isB t14 false) (fun K => oBin Tryd.prog Go.BinOp.eql 5 (Go.Operand.tmp 16) (Go.Operand.const (Go.Value.int Go.IntKind.u8 92)) t16 (Go.Value.int Go.IntKind.u8 92) Kp w K) (fun t17 w =>  -- value.go:64
  oG (isB t9 true) (fun K => oPick Tryd.prog t14 (Go.Value.bool Bool.true) t17 Kp w K) (fun t18 w =>  -- value.go:64
  oPick Tryd.prog t9 t18 (Go.Value.bool Bool.false) Kp w fun t19 w =>  -- value.go:64
  oCond t19 (
   oIX Tryd.prog 9 p0 (Go.Value.int Go.IntKind.i64 1) Kp w fun t21 w =>  -- value.go:65
   R (Go.Value.tuple #[t21, (Go.Value.int Go.IntKind.i64 2)]) w) (
   oBI Tryd.prog Go.Builtin.len #[9] 3 [false] [p0] Kp w fun t23 w =>  -- value.go:67
   oBin Tryd.prog Go.BinOp.lss 3 (Go.Operand.tmp 23) (Go.Operand.const (Go.Value.int Go.IntKind.i64 4)) t23 (Go.Value.int Go.IntKind.i64 4) Kp w fun t24 w =>  -- value.go:67
   oG (isB t24 false) (fun K => K p0 w) (fun t26 w =>  -- value.go:67
   oG (isB t24 false) (fun K => oIX Tryd.prog 9 t26 (Go.Value.int Go.IntKind.i64 1) Kp w K) (fun t27 w =>  -- value.go:67
   oG (isB t24 false) (fun K => oBin Tryd.prog Go.BinOp.neq 5 (Go.Operand.tmp 27) (Go.Operand.const (Go.Value.int Go.IntKind.u8 120)) t27 (Go.Value.int Go.IntKind.u8 120) Kp w K) (fun t28 w =>  -- value.go:67
   oPick Tryd.prog t24 (Go.Value.bool Bool.true) t28 Kp w fun t29 w =>  -- value.go:67
   oCond t29 (
    R (Go.Value.tuple #[(Go.Value.int Go.IntKind.u8 0), (Go.Value.int Go.IntKind.i64 0)]) w) (
    oIX Tryd.prog 9 p0 (Go.Value.int Go.IntKind.i64 2) noP w.drew fun t31 w =>  -- value.go:70
    oCall Tryd.prog 130 [(Go.Value.string (ByteArray.mk #[48, 49, 50, 51, 52, 53, 54, 55, 56, 57, 97, 98, 99, 100, 101, 102])), t31] noP w fun t32 w =>  -- value.go:70
    oIX Tryd.prog 9 p0 (Go.Value.int Go.IntKind.i64 3) noP w fun t34 w =>  -- value.go:70
    oCall Tryd.prog 130 [(Go.Value.string (ByteArray.mk #[48, 49, 50, 51, 52, 53, 54, 55, 56, 57, 97, 98, 99, 100, 101, 102])), t34] noP w fun t35 w =>  -- value.go:70
    oBin Tryd.prog Go.BinOp.lss 3 (Go.Operand.tmp 36) (Go.Operand.const (Go.Value.int Go.IntKind.i64 0)) t32 (Go.Value.int Go.IntKind.i64 0) Kp w fun t37 w =>  -- value.go:71
    oG (isB t37 false) (fun K => K t35 w) (fun t39 w =>  -- value.go:71
    oG (isB t37 false) (fun K => oBin Tryd.prog Go.BinOp.lss 3 (Go.Operand.tmp 39) (Go.Operand.const (Go.Value.int Go.IntKind.i64 0)) t39 (Go.Value.int Go.IntKind.i64 0) Kp w K) (fun t40 w =>  -- value.go:71
    oPick Tryd.prog t37 (Go.Value.bool Bool.true) t40 Kp w fun t41 w =>  -- value.go:71
    oCond t41 (
     R (Go.Value.tuple #[(Go.Value.int Go.IntKind.u8 0), (Go.Value.int Go.IntKind.i64 0)]) w) (
     oBin Tryd.prog Go.BinOp.shl 3 (Go.Operand.tmp 42) (Go.Operand.const (Go.Value.int Go.IntKind.u64 4)) t32 (Go.Value.int Go.IntKind.u64 4) Kp w fun t43 w =>  -- value.go:74
     oBin Tryd.prog Go.BinOp.or 3 (Go.Operand.tmp 43) (Go.Operand.tmp 44) t43 t35 Kp w fun t45 w =>  -- value.go:74
     oCV Tryd.prog 3 5 t45 Kp w fun t46 w =>  -- value.go:74
     oBin Tryd.prog Go.BinOp.geq 5 (Go.Operand.tmp 47) (Go.Operand.const (Go.Value.int Go.IntKind.u8 32)) t46 (Go.Value.int Go.IntKind.u8 32) Kp w fun t48 w =>  -- value.go:75
     oG (isB t48 true) (fun K => K t46 w) (fun t50 w =>  -- value.go:75
     oG (isB t48 true) (fun K => oBin Tryd.prog Go.BinOp.leq 5 (Go.Operand.tmp 50) (Go.Operand.const (Go.Value.int Go.IntKind.u8 126)) t50 (Go.Value.int Go.IntKind.u8 126) Kp w K) (fun t51 w =>  -- value.go:75
     oPick Tryd.prog t48 t51 (Go.Value.bool Bool.false) Kp w fun t52 w =>  -- value.go:75
     oCond t52 (
      R (Go.Value.tuple #[(Go.Value.int Go.IntKind.u8 0), (Go.Value.int Go.IntKind.i64 0)]) w) (
      R (Go.Value.tuple #[t46, (Go.Value.int Go.IntKind.i64 4)]) w)) w) w)) w) w)) w) w) w)) w) w) w) w) w) w) w) w
def a_value_escaped : Ann := ⟨[], [], [], []⟩
theorem e_value_escaped (R : VK) (Kp : PK) (p0 : Value) (w : World) : W Tryd.prog a_value_escaped Kp (bodyOf Tryd.f98) (retQ Tryd.prog Tryd.f98.results.toList R) (env0 [p0]) w = n_value_escaped R Kp p0 w := by kernel_rfl
theorem c_value_escaped {R : VK} {Kp : PK} {p0 : Value} {w : World} (h : n_value_escaped R Kp p0 w) : Calls Tryd.prog 98 #[p0] w (callR R Kp) :=
  calls_of_N (an := a_value_escaped) (args := [p0]) mixed_N3 Tryd.func98 (by kernel_rfl) (by kernel_rfl) (by kernel_rfl) (e_value_escaped R Kp p0 w) h

/-- strconv.Itoa -/
def n_strconv_Itoa (R : VK) (Kp : PK) (p0 : Value) (w : World) : Prop :=
  oCall Tryd.prog 140 [p0] Kp w fun t4 w =>  -- number.go:215
  R t4 w
def a_strconv_Itoa : Ann := ⟨[], [], [], []⟩
theorem e_strconv_Itoa (R : VK) (Kp : PK) (p0 : Value) (w : World) : W Tryd.prog a_strconv_Itoa Kp (bodyOf Tryd.f102) (retQ Tryd.prog Tryd.f102.results.toList R) (env0 [p0]) w = n_strconv_Itoa R Kp p0 w := by kernel_rfl
theorem c_strconv_Itoa {R : VK} {Kp : PK} {p0 : Value} {w : World} (h : n_strconv_Itoa R Kp p0 w) : Calls Tryd.prog 102 #[p0] w (callR R Kp) :=
  calls_of_N (an := a_strconv_Itoa) (args := [p0]) mixed_N3 Tryd.func102 (by kernel_rfl) (by kernel_rfl) (by kernel_rfl) (e_strconv_Itoa R Kp p0 w) h

/-- strings.Join -/
def n_strings_Join (R : VK) (Kp : PK) (p0 p1 : Value) (w : World) : Prop :=
  oBI Tryd.prog Go.Builtin.len #[23] 3 [false] [p0] Kp w fun t12 w =>  -- strings.go:469
  oBin Tryd.prog Go.BinOp.eql 3 (Go.Operand.tmp 12) (Go.Operand.const (Go.Value.int Go.IntKind.i64 0)) t12 (Go.Value.int Go.IntKind.i64 0) Kp w fun t14 w =>  -- strings.go:470
  oCond t14 (
   R (Go.Value.string (ByteArray.mk #[])) w) (
   oBin Tryd.prog Go.BinOp.eql 3 (Go.Operand.tmp 12) (Go.Operand.const (Go.Value.int Go.IntKind.i64 1)) t12 (Go.Value.int Go.IntKind.i64 1) Kp w fun t16 w =>  -- strings.go:472
   oCond t16 (
    oIA Tryd.prog 23 p0 (Go.Value.int Go.IntKind.i64 0) Kp w fun t18 w =>  -- strings.go:473
    oLoad Tryd.prog 9 t18 Kp w fun t19 w =>  -- strings.go:473
    R t19 w) (
    nCut [5] (fun M1 =>
     oBI Tryd.prog Go.Builtin.len #[9] 3 [false] [p1] Kp w fun t21 w =>  -- strings.go:477
     oBin Tryd.prog Go.BinOp.gtr 3 (Go.Operand.tmp 21) (Go.Operand.const (Go.Value.int Go.IntKind.i64 0)) t21 (Go.Value.int Go.IntKind.i64 0) Kp w fun t22 w =>  -- strings.go:477
     oCond t22 (
      nCut [] (fun M2 =>
       oBI Tryd.prog Go.Builtin.len #[9] 3 [false] [p1] Kp w fun t24 w =>  -- strings.go:478
       oBI Tryd.prog Go.Builtin.len #[23] 3 [false] [p0] Kp w fun t26 w =>  -- strings.go:478
       oBin Tryd.prog Go.BinOp.sub 3 (Go.Operand.tmp 26) (Go.Operand.const (Go.Value.int Go.IntKind.i64 1)) t26 (Go.Value.int Go.IntKind.i64 1) Kp w fun t27 w =>  -- strings.go:478
       oBin Tryd.prog Go.BinOp.quo 3 (Go.Operand.const (Go.Value.int Go.IntKind.i64 9223372036854775807)) (Go.Operand.tmp 27) (Go.Value.int Go.IntKind.i64 9223372036854775807) t27 Kp w fun t28 w =>  -- strings.go:478
       oBin Tryd.prog Go.BinOp.geq 3 (Go.Operand.tmp 24) (Go.Operand.tmp 28) t24 t28 Kp w fun t29 w =>  -- strings.go:478
       oCond t29 (
        oMI Tryd.prog 9 (Go.Value.string (ByteArray.mk #[115, 116, 114, 105, 110, 103, 115, 58, 32, 74, 111, 105, 110, 32, 111, 117, 116, 112, 117, 116, 32, 108, 101, 110, 103, 116, 104, 32, 111, 118, 101, 114, 102, 108, 111, 119])) Kp w fun t30 w =>  -- strings.go:479
        oPanic Tryd.prog t30 Kp w fun _t w =>  -- strings.go:479
        M2 [] w) (
        M2 [] w))
      (fun g2 w =>
       oBI Tryd.prog Go.Builtin.len #[9] 3 [false] [p1] Kp w fun t33 w =>  -- strings.go:481
       oBI Tryd.prog Go.Builtin.len #[23] 3 [false] [p0] Kp w fun t35 w =>  -- strings.go:481
       oBin Tryd.prog Go.BinOp.sub 3 (Go.Operand.tmp 35) (Go.Operand.const (Go.Value.int Go.IntKind.i64 1)) t35 (Go.Value.int Go.IntKind.i64 1) Kp w fun t36 w =>  -- strings.go:481
       oBin Tryd.prog Go.BinOp.mul 3 (Go.Operand.tmp 33) (Go.Operand.tmp 36) t33 t36 Kp w fun t37 w =>  -- strings.go:481
       oBin Tryd.prog Go.BinOp.add 3 (Go.Operand.tmp 31) (Go.Operand.tmp 37) (Go.Value.int Go.IntKind.i64 0) t37 Kp w fun t38 w =>  -- strings.go:481
       M1 [t38] w)) (
      M1 [(Go.Value.int Go.IntKind.i64 0)] w))
    (fun g1 w =>
     oBI Tryd.prog Go.Builtin.len #[23] 3 [false] [p0] Kp w fun t40 w =>  -- strings.go:483
     nLoop [5, 41] [(g1 5), (Go.Value.int Go.IntKind.i64 0)] w (fun f3 ag3 w =>  -- 5=n, 41=
      oBin Tryd.prog Go.BinOp.lss 3 (Go.Operand.tmp 41) (Go.Operand.tmp 40) (f3 41) t40 Kp w fun t42 w =>  -- strings.go:483
      oCond t42 (
       oIA Tryd.prog 23 p0 (f3 41) Kp w fun t43 w =>  -- strings.go:483
       oLoad Tryd.prog 9 t43 Kp w fun t44 w =>  -- strings.go:483
       nCut [] (fun M4 =>
        oBI Tryd.prog Go.Builtin.len #[9] 3 [false] [t44] Kp w fun t46 w =>  -- strings.go:484
        oBin Tryd.prog Go.BinOp.sub 3 (Go.Operand.const (Go.Value.int Go.IntKind.i64 9223372036854775807)) (Go.Operand.tmp 47) (Go.Value.int Go.IntKind.i64 9223372036854775807) (f3 5) Kp w fun t48 w =>  -- strings.go:484
        oBin Tryd.prog Go.BinOp.gtr 3 (Go.Operand.tmp 46) (Go.Operand.tmp 48) t46 t48 Kp w fun t49 w =>  -- strings.go:484
        oCond t49 (
         oMI Tryd.prog 9 (Go.Value.string (ByteArray.mk #[115, 116, 114, 105, 110, 103, 115, 58, 32, 74, 111, 105, 110, 32, 111, 117, 116, 112, 117, 116, 32, 108, 101, 110, 103, 116, 104, 32, 111, 118, 101, 114, 102, 108, 111, 119])) Kp w fun t50 w =>  -- strings.go:485
         oPanic Tryd.prog t50 Kp w fun _t w =>  -- strings.go:485
         M4 [] w) (
         M4 [] w))
       (fun g4 w =>
        oBI Tryd.prog Go.Builtin.len #[9] 3 [false] [t44] Kp w fun t53 w =>  -- strings.go:487
        oBin Tryd.prog Go.BinOp.add 3 (Go.Operand.tmp 51) (Go.Operand.tmp 53) (f3 5) t53 Kp w fun t54 w =>  -- strings.go:487
        oBin Tryd.prog Go.BinOp.add 3 (Go.Operand.tmp 41) (Go.Operand.const (Go.Value.int Go.IntKind.i64 1)) (f3 41) (Go.Value.int Go.IntKind.i64 1) Kp w fun t55 w =>  -- strings.go:483
        ag3 [t54, t55] w)) (
       oAlloc Tryd.prog 104 Kp w fun t8 w =>  -- strings.go:490
       oCall Tryd.prog 148 [t8, (f3 5)] Kp w fun t57 w =>  -- strings.go:491
       oIA Tryd.prog 23 p0 (Go.Value.int Go.IntKind.i64 0) Kp w fun t59 w =>  -- strings.go:492
       oLoad Tryd.prog 9 t59 Kp w fun t60 w =>  -- strings.go:492
       oCall Tryd.prog 96 [t8, t60] Kp w fun t61 w =>  -- strings.go:492
       oSL Tryd.prog 23 p0 (some (Go.Value.int Go.IntKind.i64 1)) none none Kp w fun t63 w =>  -- strings.go:493
       oBI Tryd.prog Go.Builtin.len #[23] 3 [false] [t63] Kp w fun t64 w =>  -- strings.go:493
       nLoop [65] [(Go.Value.int Go.IntKind.i64 0)] w (fun f5 ag5 w =>  -- 65=
        oBin Tryd.prog Go.BinOp.lss 3 (Go.Operand.tmp 65) (Go.Operand.tmp 64) (f5 65) t64 Kp w fun t66 w =>  -- strings.go:493
        oCond t66 (
         oIA Tryd.prog 23 t63 (f5 65) Kp w fun t67 w =>  -- strings.go:493
         oLoad Tryd.prog 9 t67 Kp w fun t68 w =>  -- strings.go:493
         oCall Tryd.prog 96 [t8, p1] Kp w fun t70 w =>  -- strings.go:494
         oCall Tryd.prog 96 [t8, t68] Kp w fun t72 w =>  -- strings.go:495
         oBin Tryd.prog Go.BinOp.add 3 (Go.Operand.tmp 65) (Go.Operand.const (Go.Value.int Go.IntKind.i64 1)) (f5 65) (Go.Value.int Go.IntKind.i64 1) Kp w fun t73 w =>  -- strings.go:493
         ag5 [t73] w) (
         oCall Tryd.prog 97 [t8] Kp w fun t74 w =>  -- strings.go:497
         R t74 w)))))))
def a_strings_Join : Ann := ⟨[(12, [5, 41], 72055395014672544), (22, [65], 18852572443331161752576)], [(11, [5], 549754765344), (10, [], 2139095040), (16, [], 2216615441596416)], [], []⟩
theorem e_strings_Join (R : VK) (Kp : PK) (p0 p1 : Value) (w : World) : W Tryd.prog a_strings_Join Kp (bodyOf Tryd.f121) (retQ Tryd.prog Tryd.f121.results.toList R) (env0 [p0, p1]) w = n_strings_Join R Kp p0 p1 w := by kernel_rfl
theorem c_strings_Join {R : VK} {Kp : PK} {p0 p1 : Value} {w : World} (h : n_strings_Join R Kp p0 p1 w) : Calls Tryd.prog 121 #[p0, p1] w (callR R Kp) :=
  calls_of_N (an := a_strings_Join) (args := [p0, p1]) mixed_N3 Tryd.func121 (by kernel_rfl) (by kernel_rfl) (by kernel_rfl) (e_strings_Join R Kp p0 p1 w) h

/-- (*strings.Builder).copyCheck -/
def n_strings_Builder_copyCheck (R : VK) (Kp : PK) (p0 : Value) (w : World) : Prop :=
  oNil Tryd.prog p0 Kp w fun t3 w =>  -- builder.go:33
  oFA Tryd.prog 104 t3 0 Kp w fun t4 w =>  -- builder.go:33
  oLoad Tryd.prog 102 t4 Kp w fun t5 w =>  -- builder.go:33
  oBin Tryd.prog Go.BinOp.eql 102 (Go.Operand.tmp 5) (Go.Operand.const (Go.Value.pointer Option.none)) t5 (Go.Value.pointer Option.none) Kp w fun t6 w =>  -- builder.go:33
  oCond t6 (
   oCV Tryd.prog 102 138 p0 Kp w fun t9 w =>  -- builder.go:39
   oCall Tryd.prog 153 [t9] Kp w fun t10 w =>  -- builder.go:39
   oCV Tryd.prog 138 102 t10 Kp w fun t11 w =>  -- builder.go:39
   oNil Tryd.prog p0 Kp w fun t12 w =>  -- builder.go:39
   oFA Tryd.prog 104 t12 0 Kp w fun t13 w =>  -- builder.go:39
   oStore Tryd.prog 102 t13 t11 Kp w fun _t w =>  -- builder.go:39
   R (Go.Value.tuple #[]) w) (
   oNil Tryd.prog p0 Kp w fun t15 w =>  -- builder.go:40
   oFA Tryd.prog 104 t15 0 Kp w fun t16 w =>  -- builder.go:40
   oLoad Tryd.prog 102 t16 Kp w fun t17 w =>  -- builder.go:40
   oBin Tryd.prog Go.BinOp.neq 102 (Go.Operand.tmp 17) (Go.Operand.tmp 18) t17 p0 Kp w fun t19 w =>  -- builder.go:40
   oCond t19 (
    False) (
    R (Go.Value.tuple #[]) w))
def a_strings_Builder_copyCheck : Ann := ⟨[], [], [], []⟩
theorem e_strings_Builder_copyCheck (R : VK) (Kp : PK) (p0 : Value) (w : World) : W Tryd.prog a_strings_Builder_copyCheck Kp (bodyOf Tryd.f135) (retQ Tryd.prog Tryd.f135.results.toList R) (env0 [p0]) w = n_strings_Builder_copyCheck R Kp p0 w := by kernel_rfl
theorem c_strings_Builder_copyCheck {R : VK} {Kp : PK} {p0 : Value} {w : World} (h : n_strings_Builder_copyCheck R Kp p0 w) : Calls Tryd.prog 135 #[p0] w (callR R Kp) :=
  calls_of_N (an := a_strings_Builder_copyCheck) (args := [p0]) mixed_N3 Tryd.func135 (by kernel_rfl) (by kernel_rfl) (by kernel_rfl) (e_strings_Builder_copyCheck R Kp p0 w) h

/-- internal/strconv.Itoa -/
def n_internal_strconv_Itoa (R : VK) (Kp : PK) (p0 : Value) (w : World) : Prop :=
  oCall Tryd.prog 159 [p0, (Go.Value.int Go.IntKind.i64 10)] Kp w fun t4 w =>  -- itoa.go:53
  R t4 w
def a_internal_strconv_Itoa : Ann := ⟨[], [], [], []⟩
theorem e_internal_strconv_Itoa (R : VK) (Kp : PK) (p0 : Value) (w : World) : W Tryd.prog a_internal_strconv_Itoa Kp (bodyOf Tryd.f140) (retQ Tryd.prog Tryd.f140.results.toList R) (env0 [p0]) w = n_internal_strconv_Itoa R Kp p0 w := by kernel_rfl
theorem c_internal_strconv_Itoa {R : VK} {Kp : PK} {p0 : Value} {w : World} (h : n_internal_strconv_Itoa R Kp p0 w) : Calls Tryd.prog 140 #[p0] w (callR R Kp) :=
  calls_of_N (an := a_internal_strconv_Itoa) (args := [p0]) mixed_N3 Tryd.func140 (by kernel_rfl) (by kernel_rfl) (by kernel_rfl) (e_internal_strconv_Itoa R Kp p0 w) h

/-- (*strings.Builder).Grow -/
def n_strings_Builder_Grow (R : VK) (Kp : PK) (p0 p1 : Value) (w : World) : Prop :=
  oCall Tryd.prog 135 [p0] Kp w fun t5 w =>  -- builder.go:76
  nCut [] (fun M1 =>
   oBin Tryd.prog Go.BinOp.lss 3 (Go.Operand.tmp 6) (Go.Operand.const (Go.Value.int Go.IntKind.i64 0)) p1 (Go.Value.int Go.IntKind.i64 0) Kp w fun t7 w =>  -- builder.go:77
   oCond t7 (
    oMI Tryd.prog 9 (Go.Value.string (ByteArray.mk #[115, 116, 114, 105, 110, 103, 115, 46, 66, 117, 105, 108, 100, 101, 114, 46, 71, 114, 111, 119, 58, 32, 110, 101, 103, 97, 116, 105, 118, 101, 32, 99, 111, 117, 110, 116])) Kp w fun t8 w =>  -- builder.go:78
    oPanic Tryd.prog t8 Kp w fun _t w =>  -- builder.go:78
    M1 [] w) (
    M1 [] w))
  (fun g1 w =>
   oD (ptrish p0) (oNil Tryd.prog p0 noP w.drew (fun t10 w =>  -- builder.go:80
   oFA Tryd.prog 104 t10 1 noP w fun t11 w =>  -- builder.go:80
   oLD Tryd.prog 81 t11 w fun t12 w =>  -- builder.go:80
   oD (lenOk [t12]) (oBI Tryd.prog Go.Builtin.cap #[81] 3 [false] [t12] noP w (fun t13 w =>  -- builder.go:80
   oD (ptrish p0) (oNil Tryd.prog p0 noP w (fun t15 w =>  -- builder.go:80
   oFA Tryd.prog 104 t15 1 noP w fun t16 w =>  -- builder.go:80
   oLD Tryd.prog 81 t16 w fun t17 w =>  -- builder.go:80
   oD (lenOk [t17]) (oBI Tryd.prog Go.Builtin.len #[81] 3 [false] [t17] noP w (fun t18 w =>  -- builder.go:80
   oD (twin t13 t18) (oBin Tryd.prog Go.BinOp.sub 3 (Go.Operand.tmp 13) (Go.Operand.tmp 18) t13 t18 noP w (fun t19 w =>  -- builder.go:80
   oD (twin t19 p1) (oBin Tryd.prog Go.BinOp.lss 3 (Go.Operand.tmp 19) (Go.Operand.tmp 20) t19 p1 noP w (fun t21 w =>  -- builder.go:80
   oCond t21 (
    oCall Tryd.prog 160 [p0, p1] Kp w fun t24 w =>  -- builder.go:81
    R (Go.Value.tuple #[]) w) (
    R (Go.Value.tuple #[]) w))))))))))))))
def a_strings_Builder_Grow : Ann := ⟨[], [(3, [], 448)], [], []⟩
theorem e_strings_Builder_Grow (R : VK) (Kp : PK) (p0 p1 : Value) (w : World) : W Tryd.prog a_strings_Builder_Grow Kp (bodyOf Tryd.f148) (retQ Tryd.prog Tryd.f148.results.toList R) (env0 [p0, p1]) w = n_strings_Builder_Grow R Kp p0 p1 w := by kernel_rfl
theorem c_strings_Builder_Grow {R : VK} {Kp : PK} {p0 p1 : Value} {w : World} (h : n_strings_Builder_Grow R Kp p0 p1 w) : Calls Tryd.prog 148 #[p0, p1] w (callR R Kp) :=
  calls_of_N (an := a_strings_Builder_Grow) (args := [p0, p1]) mixed_N3 Tryd.func148 (by kernel_rfl) (by kernel_rfl) (by kernel_rfl) (e_strings_Builder_Grow R Kp p0 p1 w) h

/-- (*strings.Builder).grow -/
def n_strings_Builder_grow (R : VK) (Kp : PK) (p0 p1 : Value) (w : World) : Prop :=
  ∃ S1 : World → Prop, S1 w.drew ∧
  oD (ptrish p0) (oNil Tryd.prog p0 noP w.drew (fun t6 w =>  -- builder.go:67
  oFA Tryd.prog 104 t6 1 noP w fun t7 w =>  -- builder.go:67
  oHL Tryd.prog S1 81 t7 w fun t8 w =>  -- builder.go:67
  oD (lenOk [t8]) (oBI Tryd.prog Go.Builtin.cap #[81] 3 [false] [t8] noP w (fun t9 w =>  -- builder.go:67
  oD (twin (Go.Value.int Go.IntKind.i64 2) t9) (oBin Tryd.prog Go.BinOp.mul 3 (Go.Operand.const (Go.Value.int Go.IntKind.i64 2)) (Go.Operand.tmp 9) (Go.Value.int Go.IntKind.i64 2) t9 noP w (fun t10 w =>  -- builder.go:67
  oD (twin t10 p1) (oBin Tryd.prog Go.BinOp.add 3 (Go.Operand.tmp 10) (Go.Operand.tmp 11) t10 p1 noP w (fun t12 w =>  -- builder.go:67
  oCall Tryd.prog 169 [t12] noP w fun t13 w => S1 w ∧  -- builder.go:67
  oD (ptrish p0) (oNil Tryd.prog p0 noP w (fun t15 w =>  -- builder.go:67
  oFA Tryd.prog 104 t15 1 noP w fun t16 w =>  -- builder.go:67
  oHL Tryd.prog S1 81 t16 w fun t17 w =>  -- builder.go:67
  oD (lenOk [t17]) (oBI Tryd.prog Go.Builtin.len #[81] 3 [false] [t17] noP w (fun t18 w =>  -- builder.go:67
  oSL Tryd.prog 81 t13 none (some t18) none noP w fun t19 w =>  -- builder.go:67
  oNil Tryd.prog p0 Kp w fun t22 w =>  -- builder.go:68
  oFA Tryd.prog 104 t22 1 Kp w fun t23 w =>  -- builder.go:68
  oLoad Tryd.prog 81 t23 Kp w fun t24 w =>  -- builder.go:68
  oBI Tryd.prog Go.Builtin.copy #[81, 81] 3 [false, false] [t19, t24] Kp w fun t25 w =>  -- builder.go:68
  oNil Tryd.prog p0 Kp w fun t28 w =>  -- builder.go:69
  oFA Tryd.prog 104 t28 1 Kp w fun t29 w =>  -- builder.go:69
  oStore Tryd.prog 81 t29 t19 Kp w fun _t w =>  -- builder.go:69
  R (Go.Value.tuple #[]) w))))))))))))
def a_strings_Builder_grow : Ann := ⟨[], [], [], []⟩
theorem e_strings_Builder_grow (R : VK) (Kp : PK) (p0 p1 : Value) (w : World) : W Tryd.prog a_strings_Builder_grow Kp (bodyOf Tryd.f160) (retQ Tryd.prog Tryd.f160.results.toList R) (env0 [p0, p1]) w = n_strings_Builder_grow R Kp p0 p1 w := by kernel_rfl
theorem c_strings_Builder_grow {R : VK} {Kp : PK} {p0 p1 : Value} {w : World} (h : n_strings_Builder_grow R Kp p0 p1 w) : Calls Tryd.prog 160 #[p0, p1] w (callR R Kp) :=
  calls_of_N (an := a_strings_Builder_grow) (args := [p0, p1]) mixed_N3 Tryd.func160 (by kernel_rfl) (by kernel_rfl) (by kernel_rfl) (e_strings_Builder_grow R Kp p0 p1 w) h

/-- internal/strconv.FormatInt -/
def n_internal_strconv_FormatInt (R : VK) (Kp : PK) (p0 p1 : Value) (w : World) : Prop :=
  oBin Tryd.prog Go.BinOp.eql 3 (Go.Operand.tmp 10) (Go.Operand.const (Go.Value.int Go.IntKind.i64 10)) p1 (Go.Value.int Go.IntKind.i64 10) Kp w fun t11 w =>  -- itoa.go:30
  oCond t11 (
   oBin Tryd.prog Go.BinOp.leq 2 (Go.Operand.const (Go.Value.int Go.IntKind.i64 0)) (Go.Operand.tmp 12) (Go.Value.int Go.IntKind.i64 0) p0 Kp w fun t13 w =>  -- itoa.go:31
   oG (isB t13 true) (fun K => K p0 w) (fun t15 w =>  -- itoa.go:31
   oG (isB t13 true) (fun K => oBin Tryd.prog Go.BinOp.lss 2 (Go.Operand.tmp 15) (Go.Operand.const (Go.Value.int Go.IntKind.i64 100)) t15 (Go.Value.int Go.IntKind.i64 100) Kp w K) (fun t16 w =>  -- itoa.go:31
   oPick Tryd.prog t13 t16 (Go.Value.bool Bool.false) Kp w fun t17 w =>  -- itoa.go:31
   oCond t17 (
    oCall Tryd.prog 165 [p0] Kp w fun t19 w =>  -- itoa.go:32
    R t19 w) (
    oAlloc Tryd.prog 152 Kp w fun t5 w =>  -- itoa.go:34
    oCV Tryd.prog 2 130 p0 Kp w fun t21 w =>  -- itoa.go:35
    nCut [6] (fun M1 =>
     oBin Tryd.prog Go.BinOp.lss 2 (Go.Operand.tmp 22) (Go.Operand.const (Go.Value.int Go.IntKind.i64 0)) p0 (Go.Value.int Go.IntKind.i64 0) Kp w fun t23 w =>  -- itoa.go:36
     oCond t23 (
      oUn Tryd.prog Go.UnOp.neg t21 Kp w fun t25 w =>  -- itoa.go:37
      M1 [t25] w) (
      M1 [t21] w))
    (fun g1 w =>
     oCall Tryd.prog 166 [(g1 6)] Kp w fun t27 w =>  -- itoa.go:39
     oBin Tryd.prog Go.BinOp.add 3 (Go.Operand.const (Go.Value.int Go.IntKind.i64 1)) (Go.Operand.tmp 28) (Go.Value.int Go.IntKind.i64 1) t27 Kp w fun t29 w =>  -- itoa.go:40
     oSL Tryd.prog 152 t5 (some (Go.Value.int Go.IntKind.i64 1)) (some t29) none Kp w fun t30 w =>  -- itoa.go:40
     oCall Tryd.prog 167 [t30, (g1 6)] Kp w fun t32 w =>  -- itoa.go:40
     oBin Tryd.prog Go.BinOp.lss 2 (Go.Operand.tmp 33) (Go.Operand.const (Go.Value.int Go.IntKind.i64 0)) p0 (Go.Value.int Go.IntKind.i64 0) Kp w fun t34 w =>  -- itoa.go:41
     oCond t34 (
      oIA Tryd.prog 152 t5 (Go.Value.int Go.IntKind.i64 0) Kp w fun t35 w =>  -- itoa.go:42
      oStore Tryd.prog 5 t35 (Go.Value.int Go.IntKind.u8 45) Kp w fun _t w =>  -- itoa.go:42
      oBin Tryd.prog Go.BinOp.add 3 (Go.Operand.const (Go.Value.int Go.IntKind.i64 1)) (Go.Operand.tmp 36) (Go.Value.int Go.IntKind.i64 1) t27 Kp w fun t37 w =>  -- itoa.go:43
      oSL Tryd.prog 152 t5 none (some t37) none Kp w fun t38 w =>  -- itoa.go:43
      oCV Tryd.prog 81 9 t38 Kp w fun t39 w =>  -- itoa.go:43
      R t39 w) (
      oBin Tryd.prog Go.BinOp.add 3 (Go.Operand.const (Go.Value.int Go.IntKind.i64 1)) (Go.Operand.tmp 40) (Go.Value.int Go.IntKind.i64 1) t27 Kp w fun t41 w =>  -- itoa.go:45
      oSL Tryd.prog 152 t5 (some (Go.Value.int Go.IntKind.i64 1)) (some t41) none Kp w fun t42 w =>  -- itoa.go:45
      oCV Tryd.prog 81 9 t42 Kp w fun t43 w =>  -- itoa.go:45
      R t43 w)))) w) w) (
   oCV Tryd.prog 2 130 p0 Kp w fun t46 w =>  -- itoa.go:47
   oBin Tryd.prog Go.BinOp.lss 2 (Go.Operand.tmp 48) (Go.Operand.const (Go.Value.int Go.IntKind.i64 0)) p0 (Go.Value.int Go.IntKind.i64 0) Kp w fun t49 w =>  -- itoa.go:47
   oCall Tryd.prog 168 [(Go.Value.slice Option.none 0 0), t46, p1, t49, (Go.Value.bool Bool.false)] Kp w fun t50 w =>  -- itoa.go:47
   oEX Tryd.prog t50 0 Kp w fun t51 w =>  -- itoa.go:47
   oEX Tryd.prog t50 1 Kp w fun t52 w =>  -- itoa.go:47
   R t52 w)
def a_internal_strconv_FormatInt : Ann := ⟨[], [(8, [6], 62914624)], [], []⟩
theorem e_internal_strconv_FormatInt (R : VK) (Kp : PK) (p0 p1 : Value) (w : World) : W Tryd.prog a_internal_strconv_FormatInt Kp (bodyOf Tryd.f159) (retQ Tryd.prog Tryd.f159.results.toList R) (env0 [p0, p1]) w = n_internal_strconv_FormatInt R Kp p0 p1 w := by kernel_rfl
theorem c_internal_strconv_FormatInt {R : VK} {Kp : PK} {p0 p1 : Value} {w : World} (h : n_internal_strconv_FormatInt R Kp p0 p1 w) : Calls Tryd.prog 159 #[p0, p1] w (callR R Kp) :=
  calls_of_N (an := a_internal_strconv_FormatInt) (args := [p0, p1]) mixed_N3 Tryd.func159 (by kernel_rfl) (by kernel_rfl) (by kernel_rfl) (e_internal_strconv_FormatInt R Kp p0 p1 w) h

/-- internal/stringslite.Clone -/
def n_internal_stringslite_Clone (R : VK) (Kp : PK) (p0 : Value) (w : World) : Prop :=
  oBI Tryd.prog Go.Builtin.len #[9] 3 [false] [p0] Kp w fun t5 w =>  -- strings.go:116
  oBin Tryd.prog Go.BinOp.eql 3 (Go.Operand.tmp 5) (Go.Operand.const (Go.Value.int Go.IntKind.i64 0)) t5 (Go.Value.int Go.IntKind.i64 0) Kp w fun t6 w =>  -- strings.go:116
  oCond t6 (
   R (Go.Value.string (ByteArray.mk #[])) w) (
   oBI Tryd.prog Go.Builtin.len #[9] 3 [false] [p0] Kp w fun t8 w =>  -- strings.go:119
   oMS Tryd.prog 81 t8 t8 Kp w fun t9 w =>  -- strings.go:119
   oBI Tryd.prog Go.Builtin.copy #[81, 9] 3 [false, false] [t9, p0] Kp w fun t12 w =>  -- strings.go:120
   oIA Tryd.prog 81 t9 (Go.Value.int Go.IntKind.i64 0) Kp w fun t14 w =>  -- strings.go:121
   oBI Tryd.prog Go.Builtin.len #[81] 3 [false] [t9] Kp w fun t16 w =>  -- strings.go:121
   oBI Tryd.prog Go.Builtin.unsafeString #[127, 3] 9 [false, false] [t14, t16] Kp w fun t17 w =>  -- strings.go:121
   R t17 w)
def a_internal_stringslite_Clone : Ann := ⟨[], [], [], []⟩
theorem e_internal_stringslite_Clone (R : VK) (Kp : PK) (p0 : Value) (w : World) : W Tryd.prog a_internal_stringslite_Clone Kp (bodyOf Tryd.f163) (retQ Tryd.prog Tryd.f163.results.toList R) (env0 [p0]) w = n_internal_stringslite_Clone R Kp p0 w := by kernel_rfl
theorem c_internal_stringslite_Clone {R : VK} {Kp : PK} {p0 : Value} {w : World} (h : n_internal_stringslite_Clone R Kp p0 w) : Calls Tryd.prog 163 #[p0] w (callR R Kp) :=
  calls_of_N (an := a_internal_stringslite_Clone) (args := [p0]) mixed_N3 Tryd.func163 (by kernel_rfl) (by kernel_rfl) (by kernel_rfl) (e_internal_stringslite_Clone R Kp p0 w) h

/-- internal/strconv.small -/
def n_internal_strconv_small (R : VK) (Kp : PK) (p0 : Value) (w : World) : Prop :=
  oBin Tryd.prog Go.BinOp.lss 3 (Go.Operand.tmp 3) (Go.Operand.const (Go.Value.int Go.IntKind.i64 10)) p0 (Go.Value.int Go.IntKind.i64 10) Kp w fun t4 w =>  -- itoa.go:172
  oCond t4 (
   oBin Tryd.prog Go.BinOp.add 3 (Go.Operand.tmp 6) (Go.Operand.const (Go.Value.int Go.IntKind.i64 1)) p0 (Go.Value.int Go.IntKind.i64 1) Kp w fun t7 w =>  -- itoa.go:173
   oSL Tryd.prog 9 (Go.Value.string (ByteArray.mk #[48, 49, 50, 51, 52, 53, 54, 55, 56, 57, 97, 98, 99, 100, 101, 102, 103, 104, 105, 106, 107, 108, 109, 110, 111, 112, 113, 114, 115, 116, 117, 118, 119, 120, 121, 122])) (some p0) (some t7) none Kp w fun t8 w =>  -- itoa.go:173
   R t8 w) (
   oBin Tryd.prog Go.BinOp.mul 3 (Go.Operand.tmp 9) (Go.Operand.const (Go.Value.int Go.IntKind.i64 2)) p0 (Go.Value.int Go.IntKind.i64 2) Kp w fun t10 w =>  -- itoa.go:175
   oBin Tryd.prog Go.BinOp.mul 3 (Go.Operand.tmp 11) (Go.Operand.const (Go.Value.int Go.IntKind.i64 2)) p0 (Go.Value.int Go.IntKind.i64 2) Kp w fun t12 w =>  -- itoa.go:175
   oBin Tryd.prog Go.BinOp.add 3 (Go.Operand.tmp 12) (Go.Operand.const (Go.Value.int Go.IntKind.i64 2)) t12 (Go.Value.int Go.IntKind.i64 2) Kp w fun t13 w =>  -- itoa.go:175
   oSL Tryd.prog 9 (Go.Value.string (ByteArray.mk (List.toArray (List.append (List.append [48, 48, 48, 49, 48, 50, 48, 51, 48, 52, 48, 53, 48, 54, 48, 55, 48, 56, 48, 57, 49, 48, 49, 49, 49, 50, 49, 51, 49, 52, 49, 53, 49, 54, 49, 55, 49, 56, 49, 57, 50, 48, 50, 49, 50, 50, 50, 51, 50, 52] [50, 53, 50, 54, 50, 55, 50, 56, 50, 57, 51, 48, 51, 49, 51, 50, 51, 51, 51, 52, 51, 53, 51, 54, 51, 55, 51, 56, 51, 57, 52, 48, 52, 49, 52, 50, 52, 51, 52, 52, 52, 53, 52, 54, 52, 55, 52, 56, 52, 57]) (List.append [53, 48, 53, 49, 53, 50, 53, 51, 53, 52, 53, 53, 53, 54, 53, 55, 53, 56, 53, 57, 54, 48, 54, 49, 54, 50, 54, 51, 54, 52, 54, 53, 54, 54, 54, 55, 54, 56, 54, 57, 55, 48, 55, 49, 55, 50, 55, 51, 55, 52] [55, 53, 55, 54, 55, 55, 55, 56, 55, 57, 56, 48, 56, 49, 56, 50, 56, 51, 56, 52, 56, 53, 56, 54, 56, 55, 56, 56, 56, 57, 57, 48, 57, 49, 57, 50, 57, 51, 57, 52, 57, 53, 57, 54, 57, 55, 57, 56, 57, 57]))))) (some t10) (some t13) none Kp w fun t14 w =>  -- itoa.go:175
   R t14 w)
def a_internal_strconv_small : Ann := ⟨[], [], [], []⟩
theorem e_internal_strconv_small (R : VK) (Kp : PK) (p0 : Value) (w : World) : W Tryd.prog a_internal_strconv_small Kp (bodyOf Tryd.f165) (retQ Tryd.prog Tryd.f165.results.toList R) (env0 [p0]) w = n_internal_strconv_small R Kp p0 w := by kernel_rfl
theorem c_internal_strconv_small {R : VK} {Kp : PK} {p0 : Value} {w : World} (h : n_internal_strconv_small R Kp p0 w) : Calls Tryd.prog 165 #[p0] w (callR R Kp) :=
  calls_of_N (an := a_internal_strconv_small) (args := [p0]) mixed_N3 Tryd.func165 (by kernel_rfl) (by kernel_rfl) (by kernel_rfl) (e_internal_strconv_small R Kp p0 w) h

/-- internal/strconv.numDigits -/
def n_internal_strconv_numDigits (R : VK) (Kp : PK) (p0 : Value) (w : World) : Prop :=
  oCall Tryd.prog 173 [p0] Kp w fun t5 w =>  -- uscale.go:288
  oCall Tryd.prog 172 [t5] Kp w fun t6 w =>  -- uscale.go:288
  oIA Tryd.prog 163 (Go.Value.pointer (some ⟨3, 0, none⟩)) t6 Kp w fun t10 w =>  -- uscale.go:289
  oLoad Tryd.prog 130 t10 Kp w fun t11 w =>  -- uscale.go:289
  oBin Tryd.prog Go.BinOp.geq 130 (Go.Operand.tmp 8) (Go.Operand.tmp 11) p0 t11 Kp w fun t12 w =>  -- uscale.go:289
  oCall Tryd.prog 174 [t12] Kp w fun t13 w =>  -- uscale.go:289
  oBin Tryd.prog Go.BinOp.add 3 (Go.Operand.tmp 7) (Go.Operand.tmp 13) t6 t13 Kp w fun t14 w =>  -- uscale.go:289
  R t14 w
def a_internal_strconv_numDigits : Ann := ⟨[], [], [], []⟩
theorem e_internal_strconv_numDigits (R : VK) (Kp : PK) (p0 : Value) (w : World) : W Tryd.prog a_internal_strconv_numDigits Kp (bodyOf Tryd.f166) (retQ Tryd.prog Tryd.f166.results.toList R) (env0 [p0]) w = n_internal_strconv_numDigits R Kp p0 w := by kernel_rfl
theorem c_internal_strconv_numDigits {R : VK} {Kp : PK} {p0 : Value} {w : World} (h : n_internal_strconv_numDigits R Kp p0 w) : Calls Tryd.prog 166 #[p0] w (callR R Kp) :=
  calls_of_N (an := a_internal_strconv_numDigits) (args := [p0]) mixed_N3 Tryd.func166 (by kernel_rfl) (by kernel_rfl) (by kernel_rfl) (e_internal_strconv_numDigits R Kp p0 w) h

/-- internal/strconv.formatBase10 -/
def n_internal_strconv_formatBase10 (R : VK) (Kp : PK) (p0 p1 : Value) (w : World) : Prop :=
  oBI Tryd.prog Go.Builtin.len #[81] 3 [false] [p0] Kp w fun t18 w =>  -- itoa.go:195
  nLoop [1, 4] [p1, t18] w (fun f1 ag1 w =>  -- 1=u, 4=nd
   oBin Tryd.prog Go.BinOp.geq 3 (Go.Operand.tmp 19) (Go.Operand.const (Go.Value.int Go.IntKind.i64 8)) (f1 4) (Go.Value.int Go.IntKind.i64 8) Kp w fun t20 w =>  -- itoa.go:196
   oCond t20 (
    oBin Tryd.prog Go.BinOp.rem 130 (Go.Operand.tmp 21) (Go.Operand.const (Go.Value.int Go.IntKind.u64 100000000)) (f1 1) (Go.Value.int Go.IntKind.u64 100000000) Kp w fun t22 w =>  -- itoa.go:198
    oCV Tryd.prog 130 164 t22 Kp w fun t23 w =>  -- itoa.go:198
    oBin Tryd.prog Go.BinOp.quo 130 (Go.Operand.tmp 24) (Go.Operand.const (Go.Value.int Go.IntKind.u64 100000000)) (f1 1) (Go.Value.int Go.IntKind.u64 100000000) Kp w fun t25 w =>  -- itoa.go:199
    oBin Tryd.prog Go.BinOp.quo 164 (Go.Operand.tmp 26) (Go.Operand.const (Go.Value.int Go.IntKind.u32 10000)) t23 (Go.Value.int Go.IntKind.u32 10000) Kp w fun t27 w =>  -- itoa.go:200
    oBin Tryd.prog Go.BinOp.rem 164 (Go.Operand.tmp 28) (Go.Operand.const (Go.Value.int Go.IntKind.u32 10000)) t23 (Go.Value.int Go.IntKind.u32 10000) Kp w fun t29 w =>  -- itoa.go:200
    oBin Tryd.prog Go.BinOp.quo 164 (Go.Operand.tmp 30) (Go.Operand.const (Go.Value.int Go.IntKind.u32 100)) t29 (Go.Value.int Go.IntKind.u32 100) Kp w fun t31 w =>  -- itoa.go:201
    oBin Tryd.prog Go.BinOp.mul 164 (Go.Operand.tmp 31) (Go.Operand.const (Go.Value.int Go.IntKind.u32 2)) t31 (Go.Value.int Go.IntKind.u32 2) Kp w fun t32 w =>  -- itoa.go:201
    oBin Tryd.prog Go.BinOp.rem 164 (Go.Operand.tmp 33) (Go.Operand.const (Go.Value.int Go.IntKind.u32 100)) t29 (Go.Value.int Go.IntKind.u32 100) Kp w fun t34 w =>  -- itoa.go:201
    oBin Tryd.prog Go.BinOp.mul 164 (Go.Operand.tmp 34) (Go.Operand.const (Go.Value.int Go.IntKind.u32 2)) t34 (Go.Value.int Go.IntKind.u32 2) Kp w fun t35 w =>  -- itoa.go:201
    oBin Tryd.prog Go.BinOp.quo 164 (Go.Operand.tmp 36) (Go.Operand.const (Go.Value.int Go.IntKind.u32 100)) t27 (Go.Value.int Go.IntKind.u32 100) Kp w fun t37 w =>  -- itoa.go:202
    oBin Tryd.prog Go.BinOp.mul 164 (Go.Operand.tmp 37) (Go.Operand.const (Go.Value.int Go.IntKind.u32 2)) t37 (Go.Value.int Go.IntKind.u32 2) Kp w fun t38 w =>  -- itoa.go:202
    oBin Tryd.prog Go.BinOp.rem 164 (Go.Operand.tmp 39) (Go.Operand.const (Go.Value.int Go.IntKind.u32 100)) t27 (Go.Value.int Go.IntKind.u32 100) Kp w fun t40 w =>  -- itoa.go:202
    oBin Tryd.prog Go.BinOp.mul 164 (Go.Operand.tmp 40) (Go.Operand.const (Go.Value.int Go.IntKind.u32 2)) t40 (Go.Value.int Go.IntKind.u32 2) Kp w fun t41 w =>  -- itoa.go:202
    oD (twin (f1 4) (Go.Value.int Go.IntKind.i64 1)) (oBin Tryd.prog Go.BinOp.sub 3 (Go.Operand.tmp 43) (Go.Operand.const (Go.Value.int Go.IntKind.i64 1)) (f1 4) (Go.Value.int Go.IntKind.i64 1) noP w.drew (fun t44 w =>  -- itoa.go:203
    oD (twin (f1 4) (Go.Value.int Go.IntKind.i64 2)) (oBin Tryd.prog Go.BinOp.sub 3 (Go.Operand.tmp 46) (Go.Operand.const (Go.Value.int Go.IntKind.i64 2)) (f1 4) (Go.Value.int Go.IntKind.i64 2) noP w (fun t47 w =>  -- itoa.go:203
    oD (twin t35 (Go.Value.int Go.IntKind.u32 1)) (oBin Tryd.prog Go.BinOp.add 164 (Go.Operand.tmp 48) (Go.Operand.const (Go.Value.int Go.IntKind.u32 1)) t35 (Go.Value.int Go.IntKind.u32 1) noP w (fun t49 w =>  -- itoa.go:203
    oIX Tryd.prog 9 (Go.Value.string (ByteArray.mk (List.toArray (List.append (List.append [48, 48, 48, 49, 48, 50, 48, 51, 48, 52, 48, 53, 48, 54, 48, 55, 48, 56, 48, 57, 49, 48, 49, 49, 49, 50, 49, 51, 49, 52, 49, 53, 49, 54, 49, 55, 49, 56, 49, 57, 50, 48, 50, 49, 50, 50, 50, 51, 50, 52] [50, 53, 50, 54, 50, 55, 50, 56, 50, 57, 51, 48, 51, 49, 51, 50, 51, 51, 51, 52, 51, 53, 51, 54, 51, 55, 51, 56, 51, 57, 52, 48, 52, 49, 52, 50, 52, 51, 52, 52, 52, 53, 52, 54, 52, 55, 52, 56, 52, 57]) (List.append [53, 48, 53, 49, 53, 50, 53, 51, 53, 52, 53, 53, 53, 54, 53, 55, 53, 56, 53, 57, 54, 48, 54, 49, 54, 50, 54, 51, 54, 52, 54, 53, 54, 54, 54, 55, 54, 56, 54, 57, 55, 48, 55, 49, 55, 50, 55, 51, 55, 52] [55, 53, 55, 54, 55, 55, 55, 56, 55, 57, 56, 48, 56, 49, 56, 50, 56, 51, 56, 52, 56, 53, 56, 54, 56, 55, 56, 56, 56, 57, 57, 48, 57, 49, 57, 50, 57, 51, 57, 52, 57, 53, 57, 54, 57, 55, 57, 56, 57, 57]))))) t49 noP w fun t50 w =>  -- itoa.go:203
    oIX Tryd.prog 9 (Go.Value.string (ByteArray.mk (List.toArray (List.append (List.append [48, 48, 48, 49, 48, 50, 48, 51, 48, 52, 48, 53, 48, 54, 48, 55, 48, 56, 48, 57, 49, 48, 49, 49, 49, 50, 49, 51, 49, 52, 49, 53, 49, 54, 49, 55, 49, 56, 49, 57, 50, 48, 50, 49, 50, 50, 50, 51, 50, 52] [50, 53, 50, 54, 50, 55, 50, 56, 50, 57, 51, 48, 51, 49, 51, 50, 51, 51, 51, 52, 51, 53, 51, 54, 51, 55, 51, 56, 51, 57, 52, 48, 52, 49, 52, 50, 52, 51, 52, 52, 52, 53, 52, 54, 52, 55, 52, 56, 52, 57]) (List.append [53, 48, 53, 49, 53, 50, 53, 51, 53, 52, 53, 53, 53, 54, 53, 55, 53, 56, 53, 57, 54, 48, 54, 49, 54, 50, 54, 51, 54, 52, 54, 53, 54, 54, 54, 55, 54, 56, 54, 57, 55, 48, 55, 49, 55, 50, 55, 51, 55, 52] [55, 53, 55, 54, 55, 55, 55, 56, 55, 57, 56, 48, 56, 49, 56, 50, 56, 51, 56, 52, 56, 53, 56, 54, 56, 55, 56, 56, 56, 57, 57, 48, 57, 49, 57, 50, 57, 51, 57, 52, 57, 53, 57, 54, 57, 55, 57, 56, 57, 57]))))) t35 noP w fun t52 w =>  -- itoa.go:203
    oIA Tryd.prog 81 p0 t44 noP w fun t53 w =>  -- itoa.go:203
    oStore Tryd.prog 5 t53 t50 noP w fun _t w =>  -- itoa.go:203
    oIA Tryd.prog 81 p0 t47 noP w fun t54 w =>  -- itoa.go:203
    oStore Tryd.prog 5 t54 t52 noP w fun _t w =>  -- itoa.go:203
    oD (twin (f1 4) (Go.Value.int Go.IntKind.i64 3)) (oBin Tryd.prog Go.BinOp.sub 3 (Go.Operand.tmp 56) (Go.Operand.const (Go.Value.int Go.IntKind.i64 3)) (f1 4) (Go.Value.int Go.IntKind.i64 3) noP w.drew (fun t57 w =>  -- itoa.go:204
    oD (twin (f1 4) (Go.Value.int Go.IntKind.i64 4)) (oBin Tryd.prog Go.BinOp.sub 3 (Go.Operand.tmp 59) (Go.Operand.const (Go.Value.int Go.IntKind.i64 4)) (f1 4) (Go.Value.int Go.IntKind.i64 4) noP w (fun t60 w =>  -- itoa.go:204
    oD (twin t32 (Go.Value.int Go.IntKind.u32 1)) (oBin Tryd.prog Go.BinOp.add 164 (Go.Operand.tmp 61) (Go.Operand.const (Go.Value.int Go.IntKind.u32 1)) t32 (Go.Value.int Go.IntKind.u32 1) noP w (fun t62 w =>  -- itoa.go:204
    oIX Tryd.prog 9 (Go.Value.string (ByteArray.mk (List.toArray (List.append (List.append [48, 48, 48, 49, 48, 50, 48, 51, 48, 52, 48, 53, 48, 54, 48, 55, 48, 56, 48, 57, 49, 48, 49, 49, 49, 50, 49, 51, 49, 52, 49, 53, 49, 54, 49, 55, 49, 56, 49, 57, 50, 48, 50, 49, 50, 50, 50, 51, 50, 52] [50, 53, 50, 54, 50, 55, 50, 56, 50, 57, 51, 48, 51, 49, 51, 50, 51, 51, 51, 52, 51, 53, 51, 54, 51, 55, 51, 56, 51, 57, 52, 48, 52, 49, 52, 50, 52, 51, 52, 52, 52, 53, 52, 54, 52, 55, 52, 56, 52, 57]) (List.append [53, 48, 53, 49, 53, 50, 53, 51, 53, 52, 53, 53, 53, 54, 53, 55, 53, 56, 53, 57, 54, 48, 54, 49, 54, 50, 54, 51, 54, 52, 54, 53, 54, 54, 54, 55, 54, 56, 54, 57, 55, 48, 55, 49, 55, 50, 55, 51, 55, 52] [55, 53, 55, 54, 55, 55, 55, 56, 55, 57, 56, 48, 56, 49, 56, 50, 56, 51, 56, 52, 56, 53, 56, 54, 56, 55, 56, 56, 56, 57, 57, 48, 57, 49, 57, 50, 57, 51, 57, 52, 57, 53, 57, 54, 57, 55, 57, 56, 57, 57]))))) t62 noP w fun t63 w =>  -- itoa.go:204
    oIX Tryd.prog 9 (Go.Value.string (ByteArray.mk (List.toArray (List.append (List.append [48, 48, 48, 49, 48, 50, 48, 51, 48, 52, 48, 53, 48, 54, 48, 55, 48, 56, 48, 57, 49, 48, 49, 49, 49, 50, 49, 51, 49, 52, 49, 53, 49, 54, 49, 55, 49, 56, 49, 57, 50, 48, 50, 49, 50, 50, 50, 51, 50, 52] [50, 53, 50, 54, 50, 55, 50, 56, 50, 57, 51, 48, 51, 49, 51, 50, 51, 51, 51, 52, 51, 53, 51, 54, 51, 55, 51, 56, 51, 57, 52, 48, 52, 49, 52, 50, 52, 51, 52, 52, 52, 53, 52, 54, 52, 55, 52, 56, 52, 57]) (List.append [53, 48, 53, 49, 53, 50, 53, 51, 53, 52, 53, 53, 53, 54, 53, 55, 53, 56, 53, 57, 54, 48, 54, 49, 54, 50, 54, 51, 54, 52, 54, 53, 54, 54, 54, 55, 54, 56, 54, 57, 55, 48, 55, 49, 55, 50, 55, 51, 55, 52] [55, 53, 55, 54, 55, 55, 55, 56, 55, 57, 56, 48, 56, 49, 56, 50, 56, 51, 56, 52, 56, 53, 56, 54, 56, 55, 56, 56, 56, 57, 57, 48, 57, 49, 57, 50, 57, 51, 57, 52, 57, 53, 57, 54, 57, 55, 57, 56, 57, 57]))))) t32 noP w fun t65 w =>  -- itoa.go:204
    oIA Tryd.prog 81 p0 t57 noP w fun t66 w =>  -- itoa.go:204
    oStore Tryd.prog 5 t66 t63 noP w fun _t w =>  -- itoa.go:204
    oIA Tryd.prog 81 p0 t60 noP w fun t67 w =>  -- itoa.go:204
    oStore Tryd.prog 5 t67 t65 noP w fun _t w =>  -- itoa.go:204
    oD (twin (f1 4) (Go.Value.int Go.IntKind.i64 5)) (oBin Tryd.prog Go.BinOp.sub 3 (Go.Operand.tmp 69) (Go.Operand.const (Go.Value.int Go.IntKind.i64 5)) (f1 4) (Go.Value.int Go.IntKind.i64 5) noP w.drew (fun t70 w =>  -- itoa.go:205
    oD (twin (f1 4) (Go.Value.int Go.IntKind.i64 6)) (oBin Tryd.prog Go.BinOp.sub 3 (Go.Operand.tmp 72) (Go.Operand.const (Go.Value.int Go.IntKind.i64 6)) (f1 4) (Go.Value.int Go.IntKind.i64 6) noP w (fun t73 w =>  -- itoa.go:205
    oD (twin t41 (Go.Value.int Go.IntKind.u32 1)) (oBin Tryd.prog Go.BinOp.add 164 (Go.Operand.tmp 74) (Go.Operand.const (Go.Value.int Go.IntKind.u32 1)) t41 (Go.Value.int Go.IntKind.u32 1) noP w (fun t75 w =>  -- itoa.go:205
    oIX Tryd.prog 9 (Go.Value.string (ByteArray.mk (List.toArray (List.append (List.append [48, 48, 48, 49, 48, 50, 48, 51, 48, 52, 48, 53, 48, 54, 48, 55, 48, 56, 48, 57, 49, 48, 49, 49, 49, 50, 49, 51, 49, 52, 49, 53, 49, 54, 49, 55, 49, 56, 49, 57, 50, 48, 50, 49, 50, 50, 50, 51, 50, 52] [50, 53, 50, 54, 50, 55, 50, 56, 50, 57, 51, 48, 51, 49, 51, 50, 51, 51, 51, 52, 51, 53, 51, 54, 51, 55, 51, 56, 51, 57, 52, 48, 52, 49, 52, 50, 52, 51, 52, 52, 52, 53, 52, 54, 52, 55, 52, 56, 52, 57]) (List.append [53, 48, 53, 49, 53, 50, 53, 51, 53, 52, 53, 53, 53, 54, 53, 55, 53, 56, 53, 57, 54, 48, 54, 49, 54, 50, 54, 51, 54, 52, 54, 53, 54, 54, 54, 55, 54, 56, 54, 57, 55, 48, 55, 49, 55, 50, 55, 51, 55, 52] [55, 53, 55, 54, 55, 55, 55, 56, 55, 57, 56, 48, 56, 49, 56, 50, 56, 51, 56, 52, 56, 53, 56, 54, 56, 55, 56, 56, 56, 57, 57, 48, 57, 49, 57, 50, 57, 51, 57, 52, 57, 53, 57, 54, 57, 55, 57, 56, 57, 57]))))) t75 noP w fun t76 w =>  -- itoa.go:205
    oIX Tryd.prog 9 (Go.Value.string (ByteArray.mk (List.toArray (List.append (List.append [48, 48, 48, 49, 48, 50, 48, 51, 48, 52, 48, 53, 48, 54, 48, 55, 48, 56, 48, 57, 49, 48, 49, 49, 49, 50, 49, 51, 49, 52, 49, 53, 49, 54, 49, 55, 49, 56, 49, 57, 50, 48, 50, 49, 50, 50, 50, 51, 50, 52] [50, 53, 50, 54, 50, 55, 50, 56, 50, 57, 51, 48, 51, 49, 51, 50, 51, 51, 51, 52, 51, 53, 51, 54, 51, 55, 51, 56, 51, 57, 52, 48, 52, 49, 52, 50, 52, 51, 52, 52, 52, 53, 52, 54, 52, 55, 52, 56, 52, 57]) (List.append [53, 48, 53, 49, 53, 50, 53, 51, 53, 52, 53, 53, 53, 54, 53, 55, 53, 56, 53, 57, 54, 48, 54, 49, 54, 50, 54, 51, 54, 52, 54, 53, 54, 54, 54, 55, 54, 56, 54, 57, 55, 48, 55, 49, 55, 50, 55, 51, 55, 52] [55, 53, 55, 54, 55, 55, 55, 56, 55, 57, 56, 48, 56, 49, 56, 50, 56, 51, 56, 52, 56, 53, 56, 54, 56, 55, 56, 56, 56, 57, 57, 48, 57, 49, 57, 50, 57, 51, 57, 52, 57, 53, 57, 54, 57, 55, 57, 56, 57, 57]))))) t41 noP w fun t78 w =>  -- itoa.go:205
    oIA Tryd.prog 81 p0 t70 noP w fun t79 w =>  -- itoa.go:205
    oStore Tryd.prog 5 t79 t76 noP w fun _t w =>  -- itoa.go:205
    oIA Tryd.prog 81 p0 t73 noP w fun t80 w =>  -- itoa.go:205
    oStore Tryd.prog 5 t80 t78 noP w fun _t w =>  -- itoa.go:205
    oD (twin (f1 4) (Go.Value.int Go.IntKind.i64 7)) (oBin Tryd.prog Go.BinOp.sub 3 (Go.Operand.tmp 82) (Go.Operand.const (Go.Value.int Go.IntKind.i64 7)) (f1 4) (Go.Value.int Go.IntKind.i64 7) noP w.drew (fun t83 w =>  -- itoa.go:206
    oD (twin (f1 4) (Go.Value.int Go.IntKind.i64 8)) (oBin Tryd.prog Go.BinOp.sub 3 (Go.Operand.tmp 85) (Go.Operand.const (Go.Value.int Go.IntKind.i64 8)) (f1 4) (Go.Value.int Go.IntKind.i64 8) noP w (fun t86 w =>  -- itoa.go:206
    oD (twin t38 (Go.Value.int Go.IntKind.u32 1)) (oBin Tryd.prog Go.BinOp.add 164 (Go.Operand.tmp 87) (Go.Operand.const (Go.Value.int Go.IntKind.u32 1)) t38 (Go.Value.int Go.IntKind.u32 1) noP w (fun t88 w =>  -- itoa.go:206
    oIX Tryd.prog 9 (Go.Value.string (ByteArray.mk (List.toArray (List.append (List.append [48, 48, 48, 49, 48, 50, 48, 51, 48, 52, 48, 53, 48, 54, 48, 55, 48, 56, 48, 57, 49, 48, 49, 49, 49, 50, 49, 51, 49, 52, 49, 53, 49, 54, 49, 55, 49, 56, 49, 57, 50, 48, 50, 49, 50, 50, 50, 51, 50, 52] [50, 53, 50, 54, 50, 55, 50, 56, 50, 57, 51, 48, 51, 49, 51, 50, 51, 51, 51, 52, 51, 53, 51, 54, 51, 55, 51, 56, 51, 57, 52, 48, 52, 49, 52, 50, 52, 51, 52, 52, 52, 53, 52, 54, 52, 55, 52, 56, 52, 57]) (List.append [53, 48, 53, 49, 53, 50, 53, 51, 53, 52, 53, 53, 53, 54, 53, 55, 53, 56, 53, 57, 54, 48, 54, 49, 54, 50, 54, 51, 54, 52, 54, 53, 54, 54, 54, 55, 54, 56, 54, 57, 55, 48, 55, 49, 55, 50, 55, 51, 55, 52] [55, 53, 55, 54, 55, 55, 55, 56, 55, 57, 56, 48, 56, 49, 56, 50, 56, 51, 56, 52, 56, 53, 56, 54, 56, 55, 56, 56, 56, 57, 57, 48, 57, 49, 57, 50, 57, 51, 57, 52, 57, 53, 57, 54, 57, 55, 57, 56, 57, 57]))))) t88 noP w fun t89 w =>  -- itoa.go:206
    oIX Tryd.prog 9 (Go.Value.string (ByteArray.mk (List.toArray (List.append (List.append [48, 48, 48, 49, 48, 50, 48, 51, 48, 52, 48, 53, 48, 54, 48, 55, 48, 56, 48, 57, 49, 48, 49, 49, 49, 50, 49, 51, 49, 52, 49, 53, 49, 54, 49, 55, 49, 56, 49, 57, 50, 48, 50, 49, 50, 50, 50, 51, 50, 52] [50, 53, 50, 54, 50, 55, 50, 56, 50, 57, 51, 48, 51, 49, 51, 50, 51, 51, 51, 52, 51, 53, 51, 54, 51, 55, 51, 56, 51, 57, 52, 48, 52, 49, 52, 50, 52, 51, 52, 52, 52, 53, 52, 54, 52, 55, 52, 56, 52, 57]) (List.append [53, 48, 53, 49, 53, 50, 53, 51, 53, 52, 53, 53, 53, 54, 53, 55, 53, 56, 53, 57, 54, 48, 54, 49, 54, 50, 54, 51, 54, 52, 54, 53, 54, 54, 54, 55, 54, 56, 54, 57, 55, 48, 55, 49, 55, 50, 55, 51, 55, 52] [55, 53, 55, 54, 55, 55, 55, 56, 55, 57, 56, 48, 56, 49, 56, 50, 56, 51, 56, 52, 56, 53, 56, 54, 56, 55, 56, 56, 56, 57, 57, 48, 57, 49, 57, 50, 57, 51, 57, 52, 57, 53, 57, 54, 57, 55, 57, 56, 57, 57]))))) t38 noP w fun t91 w =>  -- itoa.go:206
    oIA Tryd.prog 81 p0 t83 noP w fun t92 w =>  -- itoa.go:206
    oStore Tryd.prog 5 t92 t89 noP w fun _t w =>  -- itoa.go:206
    oIA Tryd.prog 81 p0 t86 noP w fun t93 w =>  -- itoa.go:206
    oStore Tryd.prog 5 t93 t91 noP w fun _t w =>  -- itoa.go:206
    oBin Tryd.prog Go.BinOp.sub 3 (Go.Operand.tmp 94) (Go.Operand.const (Go.Value.int Go.IntKind.i64 8)) (f1 4) (Go.Value.int Go.IntKind.i64 8) Kp w fun t95 w =>  -- itoa.go:207
    ag1 [t25, t95] w))))))))))))))))))))))))) (
    oCV Tryd.prog 130 164 (f1 1) Kp w fun t97 w =>  -- itoa.go:210
    nCut [4, 12] (fun M2 =>
     oBin Tryd.prog Go.BinOp.geq 3 (Go.Operand.tmp 98) (Go.Operand.const (Go.Value.int Go.IntKind.i64 4)) (f1 4) (Go.Value.int Go.IntKind.i64 4) Kp w fun t99 w =>  -- itoa.go:211
     oCond t99 (
      oBin Tryd.prog Go.BinOp.rem 164 (Go.Operand.tmp 100) (Go.Operand.const (Go.Value.int Go.IntKind.u32 10000)) t97 (Go.Value.int Go.IntKind.u32 10000) Kp w fun t101 w =>  -- itoa.go:213
      oBin Tryd.prog Go.BinOp.quo 164 (Go.Operand.tmp 102) (Go.Operand.const (Go.Value.int Go.IntKind.u32 10000)) t97 (Go.Value.int Go.IntKind.u32 10000) Kp w fun t103 w =>  -- itoa.go:214
      oBin Tryd.prog Go.BinOp.quo 164 (Go.Operand.tmp 104) (Go.Operand.const (Go.Value.int Go.IntKind.u32 100)) t101 (Go.Value.int Go.IntKind.u32 100) Kp w fun t105 w =>  -- itoa.go:215
      oBin Tryd.prog Go.BinOp.mul 164 (Go.Operand.tmp 105) (Go.Operand.const (Go.Value.int Go.IntKind.u32 2)) t105 (Go.Value.int Go.IntKind.u32 2) Kp w fun t106 w =>  -- itoa.go:215
      oBin Tryd.prog Go.BinOp.rem 164 (Go.Operand.tmp 107) (Go.Operand.const (Go.Value.int Go.IntKind.u32 100)) t101 (Go.Value.int Go.IntKind.u32 100) Kp w fun t108 w =>  -- itoa.go:215
      oBin Tryd.prog Go.BinOp.mul 164 (Go.Operand.tmp 108) (Go.Operand.const (Go.Value.int Go.IntKind.u32 2)) t108 (Go.Value.int Go.IntKind.u32 2) Kp w fun t109 w =>  -- itoa.go:215
      oD (twin (f1 4) (Go.Value.int Go.IntKind.i64 1)) (oBin Tryd.prog Go.BinOp.sub 3 (Go.Operand.tmp 111) (Go.Operand.const (Go.Value.int Go.IntKind.i64 1)) (f1 4) (Go.Value.int Go.IntKind.i64 1) noP w.drew (fun t112 w =>  -- itoa.go:216
      oD (twin (f1 4) (Go.Value.int Go.IntKind.i64 2)) (oBin Tryd.prog Go.BinOp.sub 3 (Go.Operand.tmp 114) (Go.Operand.const (Go.Value.int Go.IntKind.i64 2)) (f1 4) (Go.Value.int Go.IntKind.i64 2) noP w (fun t115 w =>  -- itoa.go:216
      oD (twin t109 (Go.Value.int Go.IntKind.u32 1)) (oBin Tryd.prog Go.BinOp.add 164 (Go.Operand.tmp 116) (Go.Operand.const (Go.Value.int Go.IntKind.u32 1)) t109 (Go.Value.int Go.IntKind.u32 1) noP w (fun t117 w =>  -- itoa.go:216
      oIX Tryd.prog 9 (Go.Value.string (ByteArray.mk (List.toArray (List.append (List.append [48, 48, 48, 49, 48, 50, 48, 51, 48, 52, 48, 53, 48, 54, 48, 55, 48, 56, 48, 57, 49, 48, 49, 49, 49, 50, 49, 51, 49, 52, 49, 53, 49, 54, 49, 55, 49, 56, 49, 57, 50, 48, 50, 49, 50, 50, 50, 51, 50, 52] [50, 53, 50, 54, 50, 55, 50, 56, 50, 57, 51, 48, 51, 49, 51, 50, 51, 51, 51, 52, 51, 53, 51, 54, 51, 55, 51, 56, 51, 57, 52, 48, 52, 49, 52, 50, 52, 51, 52, 52, 52, 53, 52, 54, 52, 55, 52, 56, 52, 57]) (List.append [53, 48, 53, 49, 53, 50, 53, 51, 53, 52, 53, 53, 53, 54, 53, 55, 53, 56, 53, 57, 54, 48, 54, 49, 54, 50, 54, 51, 54, 52, 54, 53, 54, 54, 54, 55, 54, 56, 54, 57, 55, 48, 55, 49, 55, 50, 55, 51, 55, 52] [55, 53, 55, 54, 55, 55, 55, 56, 55, 57, 56, 48, 56, 49, 56, 50, 56, 51, 56, 52, 56, 53, 56, 54, 56, 55, 56, 56, 56, 57, 57, 48, 57, 49, 57, 50, 57, 51, 57, 52, 57, 53, 57, 54, 57, 55, 57, 56, 57, 57]))))) t117 noP w fun t118 w =>  -- itoa.go:216
      oIX Tryd.prog 9 (Go.Value.string (ByteArray.mk (List.toArray (List.append (List.append [48, 48, 48, 49, 48, 50, 48, 51, 48, 52, 48, 53, 48, 54, 48, 55, 48, 56, 48, 57, 49, 48, 49, 49, 49, 50, 49, 51, 49, 52, 49, 53, 49, 54, 49, 55, 49, 56, 49, 57, 50, 48, 50, 49, 50, 50, 50, 51, 50, 52] [50, 53, 50, 54, 50, 55, 50, 56, 50, 57, 51, 48, 51, 49, 51, 50, 51, 51, 51, 52, 51, 53, 51, 54, 51, 55, 51, 56, 51, 57, 52, 48, 52, 49, 52, 50, 52, 51, 52, 52, 52, 53, 52, 54, 52, 55, 52, 56, 52, 57]) (List.append [53, 48, 53, 49, 53, 50, 53, 51, 53, 52, 53, 53, 53, 54, 53, 55, 53, 56, 53, 57, 54, 48, 54, 49, 54, 50, 54, 51, 54, 52, 54, 53, 54, 54, 54, 55, 54, 56, 54, 57, 55, 48, 55, 49, 55, 50, 55, 51, 55, 52] [55, 53, 55, 54, 55, 55, 55, 56, 55, 57, 56, 48, 56, 49, 56, 50, 56, 51, 56, 52, 56, 53, 56, 54, 56, 55, 56, 56, 56, 57, 57, 48, 57, 49, 57, 50, 57, 51, 57, 52, 57, 53, 57, 54, 57, 55, 57, 56, 57, 57]))))) t109 noP w fun t120 w =>  -- itoa.go:216
      oIA Tryd.prog 81 p0 t112 noP w fun t121 w =>  -- itoa.go:216
      oStore Tryd.prog 5 t121 t118 noP w fun _t w =>  -- itoa.go:216
      oIA Tryd.prog 81 p0 t115 noP w fun t122 w =>  -- itoa.go:216
      oStore Tryd.prog 5 t122 t120 noP w fun _t w =>  -- itoa.go:216
      oD (twin (f1 4) (Go.Value.int Go.IntKind.i64 3)) (oBin Tryd.prog Go.BinOp.sub 3 (Go.Operand.tmp 124) (Go.Operand.const (Go.Value.int Go.IntKind.i64 3)) (f1 4) (Go.Value.int Go.IntKind.i64 3) noP w.drew (fun t125 w =>  -- itoa.go:217
      oD (twin (f1 4) (Go.Value.int Go.IntKind.i64 4)) (oBin Tryd.prog Go.BinOp.sub 3 (Go.Operand.tmp 127) (Go.Operand.const (Go.Value.int Go.IntKind.i64 4)) (f1 4) (Go.Value.int Go.IntKind.i64 4) noP w (fun t128 w =>  -- itoa.go:217
      oD (twin t106 (Go.Value.int Go.IntKind.u32 1)) (oBin Tryd.prog Go.BinOp.add 164 (Go.Operand.tmp 129) (Go.Operand.const (Go.Value.int Go.IntKind.u32 1)) t106 (Go.Value.int Go.IntKind.u32 1) noP w (fun t130 w =>  -- itoa.go:217
      oIX Tryd.prog 9 (Go.Value.string (ByteArray.mk (List.toArray (List.append (List.append [48, 48, 48, 49, 48, 50, 48, 51, 48, 52, 48, 53, 48, 54, 48, 55, 48, 56, 48, 57, 49, 48, 49, 49, 49, 50, 49, 51, 49, 52, 49, 53, 49, 54, 49, 55, 49, 56, 49, 57, 50, 48, 50, 49, 50, 50, 50, 51, 50, 52] [50, 53, 50, 54, 50, 55, 50, 56, 50, 57, 51, 48, 51, 49, 51, 50, 51, 51, 51, 52, 51, 53, 51, 54, 51, 55, 51, 56, 51, 57, 52, 48, 52, 49, 52, 50, 52, 51, 52, 52, 52, 53, 52, 54, 52, 55, 52, 56, 52, 57]) (List.append [53, 48, 53, 49, 53, 50, 53, 51, 53, 52, 53, 53, 53, 54, 53, 55, 53, 56, 53, 57, 54, 48, 54, 49, 54, 50, 54, 51, 54, 52, 54, 53, 54, 54, 54, 55, 54, 56, 54, 57, 55, 48, 55, 49, 55, 50, 55, 51, 55, 52] [55, 53, 55, 54, 55, 55, 55, 56, 55, 57, 56, 48, 56, 49, 56, 50, 56, 51, 56, 52, 56, 53, 56, 54, 56, 55, 56, 56, 56, 57, 57, 48, 57, 49, 57, 50, 57, 51, 57, 52, 57, 53, 57, 54, 57, 55, 57, 56, 57, 57]))))) t130 noP w fun t131 w =>  -- itoa.go:217
      oIX Tryd.prog 9 (Go.Value.string (ByteArray.mk (List.toArray (List.append (List.append [48, 48, 48, 49, 48, 50, 48, 51, 48, 52, 48, 53, 48, 54, 48, 55, 48, 56, 48, 57, 49, 48, 49, 49, 49, 50, 49, 51, 49, 52, 49, 53, 49, 54, 49, 55, 49, 56, 49, 57, 50, 48, 50, 49, 50, 50, 50, 51, 50, 52] [50, 53, 50, 54, 50, 55, 50, 56, 50, 57, 51, 48, 51, 49, 51, 50, 51, 51, 51, 52, 51, 53, 51, 54, 51, 55, 51, 56, 51, 57, 52, 48, 52, 49, 52, 50, 52, 51, 52, 52, 52, 53, 52, 54, 52, 55, 52, 56, 52, 57]) (List.append [53, 48, 53, 49, 53, 50, 53, 51, 53, 52, 53, 53, 53, 54, 53, 55, 53, 56, 53, 57, 54, 48, 54, 49, 54, 50, 54, 51, 54, 52, 54, 53, 54, 54, 54, 55, 54, 56, 54, 57, 55, 48, 55, 49, 55, 50, 55, 51, 55, 52] [55, 53, 55, 54, 55, 55, 55, 56, 55, 57, 56, 48, 56, 49, 56, 50, 56, 51, 56, 52, 56, 53, 56, 54, 56, 55, 56, 56, 56, 57, 57, 48, 57, 49, 57, 50, 57, 51, 57, 52, 57, 53, 57, 54, 57, 55, 57, 56, 57, 57]))))) t106 noP w fun t133 w =>  -- itoa.go:217
      oIA Tryd.prog 81 p0 t125 noP w fun t134 w =>  -- itoa.go:217
      oStore Tryd.prog 5 t134 t131 noP w fun _t w =>  -- itoa.go:217
      oIA Tryd.prog 81 p0 t128 noP w fun t135 w =>  -- itoa.go:217
      oStore Tryd.prog 5 t135 t133 noP w fun _t w =>  -- itoa.go:217
      oBin Tryd.prog Go.BinOp.sub 3 (Go.Operand.tmp 136) (Go.Operand.const (Go.Value.int Go.IntKind.i64 4)) (f1 4) (Go.Value.int Go.IntKind.i64 4) Kp w fun t137 w =>  -- itoa.go:218
      M2 [t137, t103] w))))))))))))) (
      M2 [(f1 4), t97] w))
    (fun g2 w =>
     nCut [4, 12] (fun M3 =>
      oBin Tryd.prog Go.BinOp.geq 3 (Go.Operand.tmp 138) (Go.Operand.const (Go.Value.int Go.IntKind.i64 2)) (g2 4) (Go.Value.int Go.IntKind.i64 2) Kp w fun t139 w =>  -- itoa.go:220
      oCond t139 (
       oBin Tryd.prog Go.BinOp.rem 164 (Go.Operand.tmp 140) (Go.Operand.const (Go.Value.int Go.IntKind.u32 100)) (g2 12) (Go.Value.int Go.IntKind.u32 100) Kp w fun t141 w =>  -- itoa.go:222
       oBin Tryd.prog Go.BinOp.mul 164 (Go.Operand.tmp 141) (Go.Operand.const (Go.Value.int Go.IntKind.u32 2)) t141 (Go.Value.int Go.IntKind.u32 2) Kp w fun t142 w =>  -- itoa.go:222
       oBin Tryd.prog Go.BinOp.quo 164 (Go.Operand.tmp 143) (Go.Operand.const (Go.Value.int Go.IntKind.u32 100)) (g2 12) (Go.Value.int Go.IntKind.u32 100) Kp w fun t144 w =>  -- itoa.go:223
       oD (twin (g2 4) (Go.Value.int Go.IntKind.i64 1)) (oBin Tryd.prog Go.BinOp.sub 3 (Go.Operand.tmp 146) (Go.Operand.const (Go.Value.int Go.IntKind.i64 1)) (g2 4) (Go.Value.int Go.IntKind.i64 1) noP w.drew (fun t147 w =>  -- itoa.go:224
       oD (twin (g2 4) (Go.Value.int Go.IntKind.i64 2)) (oBin Tryd.prog Go.BinOp.sub 3 (Go.Operand.tmp 149) (Go.Operand.const (Go.Value.int Go.IntKind.i64 2)) (g2 4) (Go.Value.int Go.IntKind.i64 2) noP w (fun t150 w =>  -- itoa.go:224
       oD (twin t142 (Go.Value.int Go.IntKind.u32 1)) (oBin Tryd.prog Go.BinOp.add 164 (Go.Operand.tmp 151) (Go.Operand.const (Go.Value.int Go.IntKind.u32 1)) t142 (Go.Value.int Go.IntKind.u32 1) noP w (fun t152 w =>  -- itoa.go:224
       oIX Tryd.prog 9 (Go.Value.string (ByteArray.mk (List.toArray (List.append (List.append [48, 48, 48, 49, 48, 50, 48, 51, 48, 52, 48, 53, 48, 54, 48, 55, 48, 56, 48, 57, 49, 48, 49, 49, 49, 50, 49, 51, 49, 52, 49, 53, 49, 54, 49, 55, 49, 56, 49, 57, 50, 48, 50, 49, 50, 50, 50, 51, 50, 52] [50, 53, 50, 54, 50, 55, 50, 56, 50, 57, 51, 48, 51, 49, 51, 50, 51, 51, 51, 52, 51, 53, 51, 54, 51, 55, 51, 56, 51, 57, 52, 48, 52, 49, 52, 50, 52, 51, 52, 52, 52, 53, 52, 54, 52, 55, 52, 56, 52, 57]) (List.append [53, 48, 53, 49, 53, 50, 53, 51, 53, 52, 53, 53, 53, 54, 53, 55, 53, 56, 53, 57, 54, 48, 54, 49, 54, 50, 54, 51, 54, 52, 54, 53, 54, 54, 54, 55, 54, 56, 54, 57, 55, 48, 55, 49, 55, 50, 55, 51, 55, 52] [55, 53, 55, 54, 55, 55, 55, 56, 55, 57, 56, 48, 56, 49, 56, 50, 56, 51, 56, 52, 56, 53, 56, 54, 56, 55, 56, 56, 56, 57, 57, 48, 57, 49, 57, 50, 57, 51, 57, 52, 57, 53, 57, 54, 57, 55, 57, 56, 57, 57]))))) t152 noP w fun t153 w =>  -- itoa.go:224
       oIX Tryd.prog 9 (Go.Value.string (ByteArray.mk (List.toArray (List.append (List.append [48, 48, 48, 49, 48, 50, 48, 51, 48, 52, 48, 53, 48, 54, 48, 55, 48, 56, 48, 57, 49, 48, 49, 49, 49, 50, 49, 51, 49, 52, 49, 53, 49, 54, 49, 55, 49, 56, 49, 57, 50, 48, 50, 49, 50, 50, 50, 51, 50, 52] [50, 53, 50, 54, 50, 55, 50, 56, 50, 57, 51, 48, 51, 49, 51, 50, 51, 51, 51, 52, 51, 53, 51, 54, 51, 55, 51, 56, 51, 57, 52, 48, 52, 49, 52, 50, 52, 51, 52, 52, 52, 53, 52, 54, 52, 55, 52, 56, 52, 57]) (List.append [53, 48, 53, 49, 53, 50, 53, 51, 53, 52, 53, 53, 53, 54, 53, 55, 53, 56, 53, 57, 54, 48, 54, 49, 54, 50, 54, 51, 54, 52, 54, 53, 54, 54, 54, 55, 54, 56, 54, 57, 55, 48, 55, 49, 55, 50, 55, 51, 55, 52] [55, 53, 55, 54, 55, 55, 55, 56, 55, 57, 56, 48, 56, 49, 56, 50, 56, 51, 56, 52, 56, 53, 56, 54, 56, 55, 56, 56, 56, 57, 57, 48, 57, 49, 57, 50, 57, 51, 57, 52, 57, 53, 57, 54, 57, 55, 57, 56, 57, 57]))))) t142 noP w fun t155 w =>  -- itoa.go:224
       oIA Tryd.prog 81 p0 t147 noP w fun t156 w =>  -- itoa.go:224
       oStore Tryd.prog 5 t156 t153 noP w fun _t w =>  -- itoa.go:224
       oIA Tryd.prog 81 p0 t150 noP w fun t157 w =>  -- itoa.go:224
       oStore Tryd.prog 5 t157 t155 noP w fun _t w =>  -- itoa.go:224
       oBin Tryd.prog Go.BinOp.sub 3 (Go.Operand.tmp 158) (Go.Operand.const (Go.Value.int Go.IntKind.i64 2)) (g2 4) (Go.Value.int Go.IntKind.i64 2) Kp w fun t159 w =>  -- itoa.go:225
       M3 [t159, t144] w))))))) (
       M3 [(g2 4), (g2 12)] w))
     (fun g3 w =>
      oBin Tryd.prog Go.BinOp.gtr 3 (Go.Operand.tmp 160) (Go.Operand.const (Go.Value.int Go.IntKind.i64 0)) (g3 4) (Go.Value.int Go.IntKind.i64 0) Kp w fun t161 w =>  -- itoa.go:227
      oCond t161 (
       oBin Tryd.prog Go.BinOp.add 164 (Go.Operand.const (Go.Value.int Go.IntKind.u32 48)) (Go.Operand.tmp 163) (Go.Value.int Go.IntKind.u32 48) (g3 12) Kp w fun t164 w =>  -- itoa.go:229
       oCV Tryd.prog 164 5 t164 Kp w fun t165 w =>  -- itoa.go:229
       oIA Tryd.prog 81 p0 (Go.Value.int Go.IntKind.i64 0) Kp w fun t166 w =>  -- itoa.go:229
       oStore Tryd.prog 5 t166 t165 Kp w fun _t w =>  -- itoa.go:229
       R (Go.Value.tuple #[]) w) (
       R (Go.Value.tuple #[]) w)))))
def a_internal_strconv_formatBase10 : Ann := ⟨[(1, [1, 4], 79228162514264337593543430130)], [(20, [4, 12], 348449143726724073936438540659756472791056), (25, [4, 12], 1461501288881759191162698246220685009525284081680)], [], []⟩
theorem e_internal_strconv_formatBase10 (R : VK) (Kp : PK) (p0 p1 : Value) (w : World) : W Tryd.prog a_internal_strconv_formatBase10 Kp (bodyOf Tryd.f167) (retQ Tryd.prog Tryd.f167.results.toList R) (env0 [p0, p1]) w = n_internal_strconv_formatBase10 R Kp p0 p1 w := by kernel_rfl
theorem c_internal_strconv_formatBase10 {R : VK} {Kp : PK} {p0 p1 : Value} {w : World} (h : n_internal_strconv_formatBase10 R Kp p0 p1 w) : Calls Tryd.prog 167 #[p0, p1] w (callR R Kp) :=
  calls_of_N (an := a_internal_strconv_formatBase10) (args := [p0, p1]) mixed_N3 Tryd.func167 (by kernel_rfl) (by kernel_rfl) (by kernel_rfl) (e_internal_strconv_formatBase10 R Kp p0 p1 w) h

/-- internal/strconv.formatBits -/
def n_internal_strconv_formatBits (R : VK) (Kp : PK) (p0 p1 p2 p3 p4 : Value) (w : World) : Prop :=
  nCut [] (fun M1 =>
   oBin Tryd.prog Go.BinOp.lss 3 (Go.Operand.tmp 19) (Go.Operand.const (Go.Value.int Go.IntKind.i64 2)) p2 (Go.Value.int Go.IntKind.i64 2) Kp w fun t20 w =>  -- itoa.go:92
   oG (isB t20 false) (fun K => K p2 w) (fun t22 w =>  -- itoa.go:92
   oG (isB t20 false) (fun K => oBin Tryd.prog Go.BinOp.eql 3 (Go.Operand.tmp 22) (Go.Operand.const (Go.Value.int Go.IntKind.i64 10)) t22 (Go.Value.int Go.IntKind.i64 10) Kp w K) (fun t23 w =>  -- itoa.go:92
   oPick Tryd.prog t20 (Go.Value.bool Bool.true) t23 Kp w fun t24 w =>  -- itoa.go:92
   oG (isB t24 false) (fun K => K p2 w) (fun t26 w =>  -- itoa.go:92
   oG (isB t24 false) (fun K => oBin Tryd.prog Go.BinOp.gtr 3 (Go.Operand.tmp 26) (Go.Operand.const (Go.Value.int Go.IntKind.i64 36)) t26 (Go.Value.int Go.IntKind.i64 36) Kp w K) (fun t27 w =>  -- itoa.go:92
   oPick Tryd.prog t24 (Go.Value.bool Bool.true) t27 Kp w fun t28 w =>  -- itoa.go:92
   oCond t28 (
    oMI Tryd.prog 9 (Go.Value.string (ByteArray.mk #[115, 116, 114, 99, 111, 110, 118, 58, 32, 105, 108, 108, 101, 103, 97, 108, 32, 65, 112, 112, 101, 110, 100, 73, 110, 116, 47, 70, 111, 114, 109, 97, 116, 73, 110, 116, 32, 98, 97, 115, 101])) Kp w fun t29 w =>  -- itoa.go:93
    oPanic Tryd.prog t29 Kp w fun _t w =>  -- itoa.go:93
    M1 [] w) (
    M1 [] w)) w) w) w) w)
  (fun g1 w =>
   oAlloc Tryd.prog 165 Kp w fun t12 w =>  -- itoa.go:97
   nCut [1] (fun M2 =>
    oCond p3 (
     oUn Tryd.prog Go.UnOp.neg p1 Kp w fun t32 w =>  -- itoa.go:100
     M2 [t32] w) (
     M2 [p1] w))
   (fun g2 w =>
    nCut [13] (fun M3 =>
     oCall Tryd.prog 175 [p2] Kp w fun t34 w =>  -- itoa.go:106
     oCond t34 (
      oCV Tryd.prog 3 110 p2 Kp w fun t36 w =>  -- itoa.go:108
      oCall Tryd.prog 176 [t36] Kp w fun t37 w =>  -- itoa.go:108
      oCV Tryd.prog 3 110 t37 Kp w fun t38 w =>  -- itoa.go:108
      oCV Tryd.prog 3 130 p2 Kp w fun t40 w =>  -- itoa.go:109
      oCV Tryd.prog 3 110 p2 Kp w fun t42 w =>  -- itoa.go:110
      oBin Tryd.prog Go.BinOp.sub 110 (Go.Operand.tmp 42) (Go.Operand.const (Go.Value.int Go.IntKind.u64 1)) t42 (Go.Value.int Go.IntKind.u64 1) Kp w fun t43 w =>  -- itoa.go:110
      nLoop [1, 13] [(g2 1), (Go.Value.int Go.IntKind.i64 65)] w (fun f4 ag4 w =>  -- 1=u, 13=i
       oBin Tryd.prog Go.BinOp.geq 130 (Go.Operand.tmp 44) (Go.Operand.tmp 45) (f4 1) t40 Kp w fun t46 w =>  -- itoa.go:111
       oCond t46 (
        oBin Tryd.prog Go.BinOp.sub 3 (Go.Operand.tmp 47) (Go.Operand.const (Go.Value.int Go.IntKind.i64 1)) (f4 13) (Go.Value.int Go.IntKind.i64 1) Kp w fun t48 w =>  -- itoa.go:112
        oBin Tryd.prog Go.BinOp.and 110 (Go.Operand.tmp 50) (Go.Operand.tmp 51) (f4 1) t43 Kp w fun t52 w =>  -- itoa.go:113
        oIX Tryd.prog 9 (Go.Value.string (ByteArray.mk #[48, 49, 50, 51, 52, 53, 54, 55, 56, 57, 97, 98, 99, 100, 101, 102, 103, 104, 105, 106, 107, 108, 109, 110, 111, 112, 113, 114, 115, 116, 117, 118, 119, 120, 121, 122])) t52 Kp w fun t53 w =>  -- itoa.go:113
        oIA Tryd.prog 165 t12 t48 Kp w fun t54 w =>  -- itoa.go:113
        oStore Tryd.prog 5 t54 t53 Kp w fun _t w =>  -- itoa.go:113
        oBin Tryd.prog Go.BinOp.shr 130 (Go.Operand.tmp 55) (Go.Operand.tmp 56) (f4 1) t38 Kp w fun t57 w =>  -- itoa.go:114
        ag4 [t57, t48] w) (
        oBin Tryd.prog Go.BinOp.sub 3 (Go.Operand.tmp 58) (Go.Operand.const (Go.Value.int Go.IntKind.i64 1)) (f4 13) (Go.Value.int Go.IntKind.i64 1) Kp w fun t59 w =>  -- itoa.go:117
        oIX Tryd.prog 9 (Go.Value.string (ByteArray.mk #[48, 49, 50, 51, 52, 53, 54, 55, 56, 57, 97, 98, 99, 100, 101, 102, 103, 104, 105, 106, 107, 108, 109, 110, 111, 112, 113, 114, 115, 116, 117, 118, 119, 120, 121, 122])) (f4 1) Kp w fun t62 w =>  -- itoa.go:118
        oIA Tryd.prog 165 t12 t59 Kp w fun t63 w =>  -- itoa.go:118
        oStore Tryd.prog 5 t63 t62 Kp w fun _t w =>  -- itoa.go:118
        M3 [t59] w))) (
      oCV Tryd.prog 3 130 p2 Kp w fun t65 w =>  -- itoa.go:121
      nLoop [1, 13] [(g2 1), (Go.Value.int Go.IntKind.i64 65)] w (fun f5 ag5 w =>  -- 1=u, 13=i
       oBin Tryd.prog Go.BinOp.geq 130 (Go.Operand.tmp 66) (Go.Operand.tmp 67) (f5 1) t65 Kp w fun t68 w =>  -- itoa.go:122
       oCond t68 (
        oBin Tryd.prog Go.BinOp.sub 3 (Go.Operand.tmp 69) (Go.Operand.const (Go.Value.int Go.IntKind.i64 1)) (f5 13) (Go.Value.int Go.IntKind.i64 1) Kp w fun t70 w =>  -- itoa.go:123
        oBin Tryd.prog Go.BinOp.quo 130 (Go.Operand.tmp 71) (Go.Operand.tmp 72) (f5 1) t65 Kp w fun t73 w =>  -- itoa.go:127
        oBin Tryd.prog Go.BinOp.mul 130 (Go.Operand.tmp 76) (Go.Operand.tmp 77) t73 t65 Kp w fun t78 w =>  -- itoa.go:128
        oBin Tryd.prog Go.BinOp.sub 130 (Go.Operand.tmp 75) (Go.Operand.tmp 78) (f5 1) t78 Kp w fun t79 w =>  -- itoa.go:128
        oIX Tryd.prog 9 (Go.Value.string (ByteArray.mk #[48, 49, 50, 51, 52, 53, 54, 55, 56, 57, 97, 98, 99, 100, 101, 102, 103, 104, 105, 106, 107, 108, 109, 110, 111, 112, 113, 114, 115, 116, 117, 118, 119, 120, 121, 122])) t79 Kp w fun t80 w =>  -- itoa.go:128
        oIA Tryd.prog 165 t12 t70 Kp w fun t81 w =>  -- itoa.go:128
        oStore Tryd.prog 5 t81 t80 Kp w fun _t w =>  -- itoa.go:128
        ag5 [t73, t70] w) (
        oBin Tryd.prog Go.BinOp.sub 3 (Go.Operand.tmp 83) (Go.Operand.const (Go.Value.int Go.IntKind.i64 1)) (f5 13) (Go.Value.int Go.IntKind.i64 1) Kp w fun t84 w =>  -- itoa.go:132
        oIX Tryd.prog 9 (Go.Value.string (ByteArray.mk #[48, 49, 50, 51, 52, 53, 54, 55, 56, 57, 97, 98, 99, 100, 101, 102, 103, 104, 105, 106, 107, 108, 109, 110, 111, 112, 113, 114, 115, 116, 117, 118, 119, 120, 121, 122])) (f5 1) Kp w fun t87 w =>  -- itoa.go:133
        oIA Tryd.prog 165 t12 t84 Kp w fun t88 w =>  -- itoa.go:133
        oStore Tryd.prog 5 t88 t87 Kp w fun _t w =>  -- itoa.go:133
        M3 [t84] w))))
    (fun g3 w =>
     nCut [13] (fun M6 =>
      oCond p3 (
       oBin Tryd.prog Go.BinOp.sub 3 (Go.Operand.tmp 90) (Go.Operand.const (Go.Value.int Go.IntKind.i64 1)) (g3 13) (Go.Value.int Go.IntKind.i64 1) Kp w fun t91 w =>  -- itoa.go:138
       oIA Tryd.prog 165 t12 t91 Kp w fun t93 w =>  -- itoa.go:139
       oStore Tryd.prog 5 t93 (Go.Value.int Go.IntKind.u8 45) Kp w fun _t w =>  -- itoa.go:139
       M6 [t91] w) (
       M6 [(g3 13)] w))
     (fun g6 w =>
      oCond p4 (
       oSL Tryd.prog 165 t12 (some (g6 13)) none none Kp w fun t97 w =>  -- itoa.go:143
       oBI Tryd.prog Go.Builtin.append #[81, 81] 81 [false, false] [p0, t97] Kp w fun t98 w =>  -- itoa.go:143
       R (Go.Value.tuple #[t98, (Go.Value.string (ByteArray.mk #[]))]) w) (
       oSL Tryd.prog 165 t12 (some (g6 13)) none none Kp w fun t100 w =>  -- itoa.go:146
       oCV Tryd.prog 81 9 t100 Kp w fun t101 w =>  -- itoa.go:146
       R (Go.Value.tuple #[(Go.Value.slice Option.none 0 0), t101]) w)))))
def a_internal_strconv_formatBits : Ann := ⟨[(11, [1, 13], 288212783965675522), (18, [1, 13], 9671332769940738559713282)], [(3, [], 1073217536), (7, [1], 7516192770), (25, [13], 618970019642690128860143618), (28, [13], 19188070608923394260936433664)], [], []⟩
theorem e_internal_strconv_formatBits (R : VK) (Kp : PK) (p0 p1 p2 p3 p4 : Value) (w : World) : W Tryd.prog a_internal_strconv_formatBits Kp (bodyOf Tryd.f168) (retQ Tryd.prog Tryd.f168.results.toList R) (env0 [p0, p1, p2, p3, p4]) w = n_internal_strconv_formatBits R Kp p0 p1 p2 p3 p4 w := by kernel_rfl
theorem c_internal_strconv_formatBits {R : VK} {Kp : PK} {p0 p1 p2 p3 p4 : Value} {w : World} (h : n_internal_strconv_formatBits R Kp p0 p1 p2 p3 p4 w) : Calls Tryd.prog 168 #[p0, p1, p2, p3, p4] w (callR R Kp) :=
  calls_of_N (an := a_internal_strconv_formatBits) (args := [p0, p1, p2, p3, p4]) mixed_N3 Tryd.func168 (by kernel_rfl) (by kernel_rfl) (by kernel_rfl) (e_internal_strconv_formatBits R Kp p0 p1 p2 p3 p4 w) h

/-- internal/strconv.lower -/
def n_internal_strconv_lower (R : VK) (Kp : PK) (p0 : Value) (w : World) : Prop :=
  oBin Tryd.prog Go.BinOp.or 5 (Go.Operand.tmp 3) (Go.Operand.const (Go.Value.int Go.IntKind.u8 32)) p0 (Go.Value.int Go.IntKind.u8 32) Kp w fun t4 w =>  -- atoi.go:12
  R t4 w
def a_internal_strconv_lower : Ann := ⟨[], [], [], []⟩
theorem e_internal_strconv_lower (R : VK) (Kp : PK) (p0 : Value) (w : World) : W Tryd.prog a_internal_strconv_lower Kp (bodyOf Tryd.f170) (retQ Tryd.prog Tryd.f170.results.toList R) (env0 [p0]) w = n_internal_strconv_lower R Kp p0 w := by kernel_rfl
theorem c_internal_strconv_lower {R : VK} {Kp : PK} {p0 : Value} {w : World} (h : n_internal_strconv_lower R Kp p0 w) : Calls Tryd.prog 170 #[p0] w (callR R Kp) :=
  calls_of_N (an := a_internal_strconv_lower) (args := [p0]) mixed_N3 Tryd.func170 (by kernel_rfl) (by kernel_rfl) (by kernel_rfl) (e_internal_strconv_lower R Kp p0 w) h

end Go.Proofs.YtlbihkgfejgefaaDoor
