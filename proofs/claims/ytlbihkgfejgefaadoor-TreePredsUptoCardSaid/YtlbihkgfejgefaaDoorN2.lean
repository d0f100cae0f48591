/- Printed by mill.py (a program of ours): the bodies of Go functions as plain texts over the model's operations, each with its equation. -/
import Derived.Test.YtlbihkgfejgefaaDoorL5
import Derived.Test.YtlbihkgfejgefaaDoorProg
namespace Go.Proofs.YtlbihkgfejgefaaDoor
open Go L
set_option maxRecDepth 100000
set_option linter.unusedVariables false

theorem mixed_N2 : Tryd.prog.follows .mixedOrders = true := by kernel_rfl

/-- trommel/schema.Name -/
def n_schema_Name (R : VK) (Kp : PK) (p0 : Value) (w : World) : Prop :=
  oBin Tryd.prog Go.BinOp.eql 9 (Go.Operand.tmp 5) (Go.Operand.const (Go.Value.string (ByteArray.mk #[]))) p0 (Go.Value.string (ByteArray.mk #[])) Kp w fun t6 w =>  -- schema.go:21
  oG (isB t6 false) (fun K => K p0 w) (fun t8 w =>  -- schema.go:21
  oG (isB t6 false) (fun K => oBI Tryd.prog Go.Builtin.len #[9] 3 [false] [t8] Kp w K) (fun t9 w =>  -- schema.go:21
  oG (isB t6 false) (fun K => oBin Tryd.prog Go.BinOp.gtr 3 (Go.Operand.tmp 9) (Go.Operand.const (Go.Value.int Go.IntKind.i64 32)) t9 (Go.Value.int Go.IntKind.i64 32) Kp w K) (fun t10 w =>  -- schema.go:21
  oPick Tryd.prog t6 (Go.Value.bool Bool.true) t10 Kp w fun t11 w =>  -- schema.go:21
  oG (isB t11 false) (fun K => K p0 w) (fun t13 w =>  -- schema.go:21
  oG (isB t11 false) (fun K => oIX Tryd.prog 9 t13 (Go.Value.int Go.IntKind.i64 0) Kp w K) (fun t14 w =>  -- schema.go:21
  oG (isB t11 false) (fun K => oCall Tryd.prog 110 [t14] Kp w K) (fun t15 w =>  -- schema.go:21
  oG (isB t11 false) (fun K => oUn Tryd.prog Go.UnOp.not t15 Kp w K) (fun t16 w =>  -- schema.go:21
  oPick Tryd.prog t11 (Go.Value.bool Bool.true) t16 Kp w fun t17 w =>  -- schema.go:21
  oCond t17 (
   R (Go.Value.bool Bool.false) w) (
   oBI Tryd.prog Go.Builtin.len #[9] 3 [false] [p0] Kp w fun t19 w =>  -- schema.go:24
   nLoop [20] [(Go.Value.int Go.IntKind.i64 0)] w (fun f1 ag1 w =>  -- 20=
    oBin Tryd.prog Go.BinOp.lss 3 (Go.Operand.tmp 20) (Go.Operand.tmp 19) (f1 20) t19 Kp w fun t21 w =>  -- schema.go:24
    oCond t21 (
     oIX Tryd.prog 9 p0 (f1 20) Kp w fun t25 w =>  -- schema.go:25
     oCall Tryd.prog 110 [t25] Kp w fun t27 w =>  -- schema.go:25
     oUn Tryd.prog Go.UnOp.not t27 Kp w fun t28 w =>  -- schema.go:25
     oG (isB t28 true) (fun K => K t25 w) (fun t30 w =>  -- schema.go:25
     oG (isB t28 true) (fun K => oBin Tryd.prog Go.BinOp.lss 5 (Go.Operand.tmp 30) (Go.Operand.const (Go.Value.int Go.IntKind.u8 48)) t30 (Go.Value.int Go.IntKind.u8 48) Kp w K) (fun t31 w =>  -- schema.go:25
     oG (isB t28 true) (fun K => K t31 w) (fun t32 w =>  -- schema.go:25
     oG (isB t32 false) (fun K => K t25 w) (fun t33 w =>  -- schema.go:25
     oG (isB t32 false) (fun K => oBin Tryd.prog Go.BinOp.gtr 5 (Go.Operand.tmp 33) (Go.Operand.const (Go.Value.int Go.IntKind.u8 57)) t33 (Go.Value.int Go.IntKind.u8 57) Kp w K) (fun t34 w =>  -- schema.go:25
     oG (isB t28 true) (fun K => oPick Tryd.prog t32 (Go.Value.bool Bool.true) t34 Kp w K) (fun t35 w =>  -- schema.go:25
     oPick Tryd.prog t28 t35 (Go.Value.bool Bool.false) Kp w fun t36 w =>  -- schema.go:25
     oG (isB t36 true) (fun K => K t25 w) (fun t38 w =>  -- schema.go:25
     oG (isB t36 true) (fun K => oBin Tryd.prog Go.BinOp.neq 5 (Go.Operand.tmp 38) (Go.Operand.const (Go.Value.int Go.IntKind.u8 95)) t38 (Go.Value.int Go.IntKind.u8 95) Kp w K) (fun t39 w =>  -- schema.go:25
     oPick Tryd.prog t36 t39 (Go.Value.bool Bool.false) Kp w fun t40 w =>  -- schema.go:25
     oCond t40 (
      R (Go.Value.bool Bool.false) w) (
      oBin Tryd.prog Go.BinOp.add 3 (Go.Operand.tmp 20) (Go.Operand.const (Go.Value.int Go.IntKind.i64 1)) (f1 20) (Go.Value.int Go.IntKind.i64 1) Kp w fun t41 w =>  -- schema.go:24
      ag1 [t41] w)) w) w) w) w) w) w) w) w) (
     R (Go.Value.bool Bool.true) w)))) w) w) w) w) w) w) w
def a_schema_Name : Ann := ⟨[(4, [20], 4398045462556)], [], [], []⟩
theorem e_schema_Name (R : VK) (Kp : PK) (p0 : Value) (w : World) : W Tryd.prog a_schema_Name Kp (bodyOf Tryd.f70) (retQ Tryd.prog Tryd.f70.results.toList R) (env0 [p0]) w = n_schema_Name R Kp p0 w := by kernel_rfl
theorem c_schema_Name {R : VK} {Kp : PK} {p0 : Value} {w : World} (h : n_schema_Name R Kp p0 w) : Calls Tryd.prog 70 #[p0] w (callR R Kp) :=
  calls_of_N (an := a_schema_Name) (args := [p0]) mixed_N2 Tryd.func70 (by kernel_rfl) (by kernel_rfl) (by kernel_rfl) (e_schema_Name R Kp p0 w) h

/-- trommel/tree.every[int] -/
def n_tree_every_int (R : VK) (Kp : PK) (p0 p1 : Value) (w : World) : Prop :=
  oBox Tryd.prog 85 p1 Kp w fun t3 w =>  -- tree.go:27
  oCall Tryd.prog 111 [p0, (Go.Value.func (Go.Fn.func 112) #[] #[t3])] Kp w fun t7 w =>  -- tree.go:28
  oUn Tryd.prog Go.UnOp.not t7 Kp w fun t8 w =>  -- tree.go:28
  R t8 w
def a_tree_every_int : Ann := ⟨[], [], [], []⟩
theorem e_tree_every_int (R : VK) (Kp : PK) (p0 p1 : Value) (w : World) : W Tryd.prog a_tree_every_int Kp (bodyOf Tryd.f71) (retQ Tryd.prog Tryd.f71.results.toList R) (env0 [p0, p1]) w = n_tree_every_int R Kp p0 p1 w := by kernel_rfl
theorem c_tree_every_int {R : VK} {Kp : PK} {p0 p1 : Value} {w : World} (h : n_tree_every_int R Kp p0 p1 w) : Calls Tryd.prog 71 #[p0, p1] w (callR R Kp) :=
  calls_of_N (an := a_tree_every_int) (args := [p0, p1]) mixed_N2 Tryd.func71 (by kernel_rfl) (by kernel_rfl) (by kernel_rfl) (e_tree_every_int R Kp p0 p1 w) h

/-- trommel/tree.number -/
def n_tree_number (R : VK) (Kp : PK) (p0 : Value) (w : World) : Prop :=
  oBin Tryd.prog Go.BinOp.geq 3 (Go.Operand.tmp 3) (Go.Operand.const (Go.Value.int Go.IntKind.i64 (-2147483648))) p0 (Go.Value.int Go.IntKind.i64 (-2147483648)) Kp w fun t4 w =>  -- tree.go:14
  oG (isB t4 true) (fun K => K p0 w) (fun t6 w =>  -- tree.go:14
  oG (isB t4 true) (fun K => oBin Tryd.prog Go.BinOp.leq 3 (Go.Operand.tmp 6) (Go.Operand.const (Go.Value.int Go.IntKind.i64 2147483647)) t6 (Go.Value.int Go.IntKind.i64 2147483647) Kp w K) (fun t7 w =>  -- tree.go:14
  oPick Tryd.prog t4 t7 (Go.Value.bool Bool.false) Kp w fun t8 w =>  -- tree.go:14
  R t8 w) w) w
def a_tree_number : Ann := ⟨[], [], [], []⟩
theorem e_tree_number (R : VK) (Kp : PK) (p0 : Value) (w : World) : W Tryd.prog a_tree_number Kp (bodyOf Tryd.f72) (retQ Tryd.prog Tryd.f72.results.toList R) (env0 [p0]) w = n_tree_number R Kp p0 w := by kernel_rfl
theorem c_tree_number {R : VK} {Kp : PK} {p0 : Value} {w : World} (h : n_tree_number R Kp p0 w) : Calls Tryd.prog 72 #[p0] w (callR R Kp) :=
  calls_of_N (an := a_tree_number) (args := [p0]) mixed_N2 Tryd.func72 (by kernel_rfl) (by kernel_rfl) (by kernel_rfl) (e_tree_number R Kp p0 w) h

/-- trommel/tree.every[string] -/
def n_tree_every_string (R : VK) (Kp : PK) (p0 p1 : Value) (w : World) : Prop :=
  oBox Tryd.prog 60 p1 Kp w fun t3 w =>  -- tree.go:27
  oCall Tryd.prog 113 [p0, (Go.Value.func (Go.Fn.func 114) #[] #[t3])] Kp w fun t7 w =>  -- tree.go:28
  oUn Tryd.prog Go.UnOp.not t7 Kp w fun t8 w =>  -- tree.go:28
  R t8 w
def a_tree_every_string : Ann := ⟨[], [], [], []⟩
theorem e_tree_every_string (R : VK) (Kp : PK) (p0 p1 : Value) (w : World) : W Tryd.prog a_tree_every_string Kp (bodyOf Tryd.f73) (retQ Tryd.prog Tryd.f73.results.toList R) (env0 [p0, p1]) w = n_tree_every_string R Kp p0 p1 w := by kernel_rfl
theorem c_tree_every_string {R : VK} {Kp : PK} {p0 p1 : Value} {w : World} (h : n_tree_every_string R Kp p0 p1 w) : Calls Tryd.prog 73 #[p0, p1] w (callR R Kp) :=
  calls_of_N (an := a_tree_every_string) (args := [p0, p1]) mixed_N2 Tryd.func73 (by kernel_rfl) (by kernel_rfl) (by kernel_rfl) (e_tree_every_string R Kp p0 p1 w) h

/-- trommel/tree.word -/
def n_tree_word (R : VK) (Kp : PK) (p0 : Value) (w : World) : Prop :=
  oBI Tryd.prog Go.Builtin.len #[9] 3 [false] [p0] Kp w fun t4 w =>  -- tree.go:16
  oBin Tryd.prog Go.BinOp.leq 3 (Go.Operand.tmp 4) (Go.Operand.const (Go.Value.int Go.IntKind.i64 64)) t4 (Go.Value.int Go.IntKind.i64 64) Kp w fun t5 w =>  -- tree.go:16
  R t5 w
def a_tree_word : Ann := ⟨[], [], [], []⟩
theorem e_tree_word (R : VK) (Kp : PK) (p0 : Value) (w : World) : W Tryd.prog a_tree_word Kp (bodyOf Tryd.f74) (retQ Tryd.prog Tryd.f74.results.toList R) (env0 [p0]) w = n_tree_word R Kp p0 w := by kernel_rfl
theorem c_tree_word {R : VK} {Kp : PK} {p0 : Value} {w : World} (h : n_tree_word R Kp p0 w) : Calls Tryd.prog 74 #[p0] w (callR R Kp) :=
  calls_of_N (an := a_tree_word) (args := [p0]) mixed_N2 Tryd.func74 (by kernel_rfl) (by kernel_rfl) (by kernel_rfl) (e_tree_word R Kp p0 w) h

/-- trommel/tree.form -/
def n_tree_form (R : VK) (Kp : PK) (p0 : Value) (w : World) : Prop :=
  oCall Tryd.prog 115 [p0, (Go.Value.bool Bool.false)] Kp w fun t4 w =>  -- tree.go:20
  oCond t4 (
   R (Go.Value.int Go.IntKind.i64 1) w) (
   R (Go.Value.int Go.IntKind.i64 0) w)
def a_tree_form : Ann := ⟨[], [], [], []⟩
theorem e_tree_form (R : VK) (Kp : PK) (p0 : Value) (w : World) : W Tryd.prog a_tree_form Kp (bodyOf Tryd.f75) (retQ Tryd.prog Tryd.f75.results.toList R) (env0 [p0]) w = n_tree_form R Kp p0 w := by kernel_rfl
theorem c_tree_form {R : VK} {Kp : PK} {p0 : Value} {w : World} (h : n_tree_form R Kp p0 w) : Calls Tryd.prog 75 #[p0] w (callR R Kp) :=
  calls_of_N (an := a_tree_form) (args := [p0]) mixed_N2 Tryd.func75 (by kernel_rfl) (by kernel_rfl) (by kernel_rfl) (e_tree_form R Kp p0 w) h

/-- trommel/trommelref02.Name -/
def n_trommelref02_Name (R : VK) (Kp : PK) (p0 : Value) (w : World) : Prop :=
  oBin Tryd.prog Go.BinOp.eql 9 (Go.Operand.tmp 6) (Go.Operand.const (Go.Value.string (ByteArray.mk #[]))) p0 (Go.Value.string (ByteArray.mk #[])) Kp w fun t7 w =>  -- ref.go:11
  oG (isB t7 false) (fun K => K p0 w) (fun t9 w =>  -- ref.go:11
  oG (isB t7 false) (fun K => oBI Tryd.prog Go.Builtin.len #[9] 3 [false] [t9] Kp w K) (fun t10 w =>  -- ref.go:11
  oG (isB t7 false) (fun K => oBin Tryd.prog Go.BinOp.gtr 3 (Go.Operand.tmp 10) (Go.Operand.const (Go.Value.int Go.IntKind.i64 32)) t10 (Go.Value.int Go.IntKind.i64 32) Kp w K) (fun t11 w =>  -- ref.go:11
  oPick Tryd.prog t7 (Go.Value.bool Bool.true) t11 Kp w fun t12 w =>  -- ref.go:11
  oCond t12 (
   R (Go.Value.bool Bool.false) w) (
   nLoop [3] [(Go.Value.int Go.IntKind.i64 0)] w (fun f1 ag1 w =>  -- 3=i
    oBI Tryd.prog Go.Builtin.len #[9] 3 [false] [p0] Kp w fun t15 w =>  -- ref.go:14
    oBin Tryd.prog Go.BinOp.lss 3 (Go.Operand.tmp 13) (Go.Operand.tmp 15) (f1 3) t15 Kp w fun t16 w =>  -- ref.go:14
    oCond t16 (
     oIX Tryd.prog 9 p0 (f1 3) Kp w fun t21 w =>  -- ref.go:15
     oBin Tryd.prog Go.BinOp.geq 5 (Go.Operand.tmp 22) (Go.Operand.const (Go.Value.int Go.IntKind.u8 97)) t21 (Go.Value.int Go.IntKind.u8 97) Kp w fun t23 w =>  -- ref.go:16
     oG (isB t23 true) (fun K => K t21 w) (fun t25 w =>  -- ref.go:16
     oG (isB t23 true) (fun K => oBin Tryd.prog Go.BinOp.leq 5 (Go.Operand.tmp 25) (Go.Operand.const (Go.Value.int Go.IntKind.u8 122)) t25 (Go.Value.int Go.IntKind.u8 122) Kp w K) (fun t26 w =>  -- ref.go:16
     oPick Tryd.prog t23 t26 (Go.Value.bool Bool.false) Kp w fun t27 w =>  -- ref.go:16
     oUn Tryd.prog Go.UnOp.not t27 Kp w fun t29 w =>  -- ref.go:17
     oG (isB t29 true) (fun K => K (f1 3) w) (fun t31 w =>  -- ref.go:17
     oG (isB t29 true) (fun K => oBin Tryd.prog Go.BinOp.eql 3 (Go.Operand.tmp 31) (Go.Operand.const (Go.Value.int Go.IntKind.i64 0)) t31 (Go.Value.int Go.IntKind.i64 0) Kp w K) (fun t32 w =>  -- ref.go:17
     oG (isB t29 true) (fun K => K t32 w) (fun t33 w =>  -- ref.go:17
     oG (isB t33 false) (fun K => K t21 w) (fun t34 w =>  -- ref.go:17
     oG (isB t33 false) (fun K => oBin Tryd.prog Go.BinOp.lss 5 (Go.Operand.tmp 34) (Go.Operand.const (Go.Value.int Go.IntKind.u8 48)) t34 (Go.Value.int Go.IntKind.u8 48) Kp w K) (fun t35 w =>  -- ref.go:17
     oG (isB t33 false) (fun K => K t35 w) (fun t36 w =>  -- ref.go:17
     oG (isB t36 false) (fun K => K t21 w) (fun t37 w =>  -- ref.go:17
     oG (isB t36 false) (fun K => oBin Tryd.prog Go.BinOp.gtr 5 (Go.Operand.tmp 37) (Go.Operand.const (Go.Value.int Go.IntKind.u8 57)) t37 (Go.Value.int Go.IntKind.u8 57) Kp w K) (fun t38 w =>  -- ref.go:17
     oG (isB t33 false) (fun K => oPick Tryd.prog t36 (Go.Value.bool Bool.true) t38 Kp w K) (fun t39 w =>  -- ref.go:17
     oG (isB t33 false) (fun K => K t39 w) (fun t40 w =>  -- ref.go:17
     oG (isB t40 true) (fun K => K t21 w) (fun t41 w =>  -- ref.go:17
     oG (isB t40 true) (fun K => oBin Tryd.prog Go.BinOp.neq 5 (Go.Operand.tmp 41) (Go.Operand.const (Go.Value.int Go.IntKind.u8 95)) t41 (Go.Value.int Go.IntKind.u8 95) Kp w K) (fun t42 w =>  -- ref.go:17
     oG (isB t33 false) (fun K => oPick Tryd.prog t40 t42 (Go.Value.bool Bool.false) Kp w K) (fun t43 w =>  -- ref.go:17
     oG (isB t29 true) (fun K => oPick Tryd.prog t33 (Go.Value.bool Bool.true) t43 Kp w K) (fun t44 w =>  -- ref.go:17
     oPick Tryd.prog t29 t44 (Go.Value.bool Bool.false) Kp w fun t45 w =>  -- ref.go:17
     oCond t45 (
      R (Go.Value.bool Bool.false) w) (
      oBin Tryd.prog Go.BinOp.add 3 (Go.Operand.tmp 17) (Go.Operand.const (Go.Value.int Go.IntKind.i64 1)) (f1 3) (Go.Value.int Go.IntKind.i64 1) Kp w fun t18 w =>  -- ref.go:14
      ag1 [t18] w)) w) w) w) w) w) w) w) w) w) w) w) w) w) w) w) w) (
     R (Go.Value.bool Bool.true) w)))) w) w) w
def a_trommelref02_Name : Ann := ⟨[(4, [3], 70368744169532)], [], [], []⟩
theorem e_trommelref02_Name (R : VK) (Kp : PK) (p0 : Value) (w : World) : W Tryd.prog a_trommelref02_Name Kp (bodyOf Tryd.f76) (retQ Tryd.prog Tryd.f76.results.toList R) (env0 [p0]) w = n_trommelref02_Name R Kp p0 w := by kernel_rfl
theorem c_trommelref02_Name {R : VK} {Kp : PK} {p0 : Value} {w : World} (h : n_trommelref02_Name R Kp p0 w) : Calls Tryd.prog 76 #[p0] w (callR R Kp) :=
  calls_of_N (an := a_trommelref02_Name) (args := [p0]) mixed_N2 Tryd.func76 (by kernel_rfl) (by kernel_rfl) (by kernel_rfl) (e_trommelref02_Name R Kp p0 w) h

/-- trommel/trommelref04.number -/
def n_trommelref04_number (R : VK) (Kp : PK) (p0 : Value) (w : World) : Prop :=
  oBin Tryd.prog Go.BinOp.geq 3 (Go.Operand.tmp 3) (Go.Operand.const (Go.Value.int Go.IntKind.i64 (-2147483648))) p0 (Go.Value.int Go.IntKind.i64 (-2147483648)) Kp w fun t4 w =>  -- ref.go:10
  oG (isB t4 true) (fun K => K p0 w) (fun t6 w =>  -- ref.go:10
  oG (isB t4 true) (fun K => oBin Tryd.prog Go.BinOp.leq 3 (Go.Operand.tmp 6) (Go.Operand.const (Go.Value.int Go.IntKind.i64 2147483647)) t6 (Go.Value.int Go.IntKind.i64 2147483647) Kp w K) (fun t7 w =>  -- ref.go:10
  oPick Tryd.prog t4 t7 (Go.Value.bool Bool.false) Kp w fun t8 w =>  -- ref.go:10
  R t8 w) w) w
def a_trommelref04_number : Ann := ⟨[], [], [], []⟩
theorem e_trommelref04_number (R : VK) (Kp : PK) (p0 : Value) (w : World) : W Tryd.prog a_trommelref04_number Kp (bodyOf Tryd.f77) (retQ Tryd.prog Tryd.f77.results.toList R) (env0 [p0]) w = n_trommelref04_number R Kp p0 w := by kernel_rfl
theorem c_trommelref04_number {R : VK} {Kp : PK} {p0 : Value} {w : World} (h : n_trommelref04_number R Kp p0 w) : Calls Tryd.prog 77 #[p0] w (callR R Kp) :=
  calls_of_N (an := a_trommelref04_number) (args := [p0]) mixed_N2 Tryd.func77 (by kernel_rfl) (by kernel_rfl) (by kernel_rfl) (e_trommelref04_number R Kp p0 w) h

/-- trommel/trommelmem.SamePred -/
def n_trommelmem_SamePred (R : VK) (Kp : PK) (p0 p1 : Value) (w : World) : Prop :=
  oBox Tryd.prog 25 p0 Kp w fun t2 w =>  -- mem.go:98
  oBox Tryd.prog 25 p1 Kp w fun t3 w =>  -- mem.go:98
  oFA Tryd.prog 25 t2 0 Kp w fun t5 w =>  -- mem.go:99
  oLoad Tryd.prog 3 t5 Kp w fun t6 w =>  -- mem.go:99
  oFA Tryd.prog 25 t3 0 Kp w fun t7 w =>  -- mem.go:99
  oLoad Tryd.prog 3 t7 Kp w fun t8 w =>  -- mem.go:99
  oBin Tryd.prog Go.BinOp.eql 3 (Go.Operand.tmp 6) (Go.Operand.tmp 8) t6 t8 Kp w fun t9 w =>  -- mem.go:99
  oG (isB t9 true) (fun K => oFA Tryd.prog 25 t2 1 Kp w K) (fun t11 w =>  -- mem.go:99
  oG (isB t9 true) (fun K => oLoad Tryd.prog 9 t11 Kp w K) (fun t12 w =>  -- mem.go:99
  oG (isB t9 true) (fun K => oFA Tryd.prog 25 t3 1 Kp w K) (fun t13 w =>  -- mem.go:99
  oG (isB t9 true) (fun K => oLoad Tryd.prog 9 t13 Kp w K) (fun t14 w =>  -- mem.go:99
  oG (isB t9 true) (fun K => oBin Tryd.prog Go.BinOp.eql 9 (Go.Operand.tmp 12) (Go.Operand.tmp 14) t12 t14 Kp w K) (fun t15 w =>  -- mem.go:99
  oPick Tryd.prog t9 t15 (Go.Value.bool Bool.false) Kp w fun t16 w =>  -- mem.go:99
  oG (isB t16 true) (fun K => oFA Tryd.prog 25 t2 4 Kp w K) (fun t18 w =>  -- mem.go:99
  oG (isB t16 true) (fun K => oLoad Tryd.prog 3 t18 Kp w K) (fun t19 w =>  -- mem.go:99
  oG (isB t16 true) (fun K => oFA Tryd.prog 25 t3 4 Kp w K) (fun t20 w =>  -- mem.go:99
  oG (isB t16 true) (fun K => oLoad Tryd.prog 3 t20 Kp w K) (fun t21 w =>  -- mem.go:99
  oG (isB t16 true) (fun K => oBin Tryd.prog Go.BinOp.eql 3 (Go.Operand.tmp 19) (Go.Operand.tmp 21) t19 t21 Kp w K) (fun t22 w =>  -- mem.go:99
  oPick Tryd.prog t16 t22 (Go.Value.bool Bool.false) Kp w fun t23 w =>  -- mem.go:99
  oG (isB t23 true) (fun K => oFA Tryd.prog 25 t2 5 Kp w K) (fun t25 w =>  -- mem.go:99
  oG (isB t23 true) (fun K => oLoad Tryd.prog 3 t25 Kp w K) (fun t26 w =>  -- mem.go:99
  oG (isB t23 true) (fun K => oFA Tryd.prog 25 t3 5 Kp w K) (fun t27 w =>  -- mem.go:99
  oG (isB t23 true) (fun K => oLoad Tryd.prog 3 t27 Kp w K) (fun t28 w =>  -- mem.go:99
  oG (isB t23 true) (fun K => oBin Tryd.prog Go.BinOp.eql 3 (Go.Operand.tmp 26) (Go.Operand.tmp 28) t26 t28 Kp w K) (fun t29 w =>  -- mem.go:99
  oPick Tryd.prog t23 t29 (Go.Value.bool Bool.false) Kp w fun t30 w =>  -- mem.go:99
  oG (isB t30 true) (fun K => oFA Tryd.prog 25 t2 2 Kp w K) (fun t32 w =>  -- mem.go:99
  oG (isB t30 true) (fun K => oLoad Tryd.prog 22 t32 Kp w K) (fun t33 w =>  -- mem.go:99
  oG (isB t30 true) (fun K => oFA Tryd.prog 25 t3 2 Kp w K) (fun t34 w =>  -- mem.go:99
  oG (isB t30 true) (fun K => oLoad Tryd.prog 22 t34 Kp w K) (fun t35 w =>  -- mem.go:99
  oG (isB t30 true) (fun K => oCall Tryd.prog 116 [t33, t35] Kp w K) (fun t36 w =>  -- mem.go:99
  oPick Tryd.prog t30 t36 (Go.Value.bool Bool.false) Kp w fun t37 w =>  -- mem.go:99
  oG (isB t37 true) (fun K => oFA Tryd.prog 25 t2 3 Kp w K) (fun t39 w =>  -- mem.go:99
  oG (isB t37 true) (fun K => oLoad Tryd.prog 23 t39 Kp w K) (fun t40 w =>  -- mem.go:99
  oG (isB t37 true) (fun K => oFA Tryd.prog 25 t3 3 Kp w K) (fun t41 w =>  -- mem.go:99
  oG (isB t37 true) (fun K => oLoad Tryd.prog 23 t41 Kp w K) (fun t42 w =>  -- mem.go:99
  oG (isB t37 true) (fun K => oCall Tryd.prog 117 [t40, t42] Kp w K) (fun t43 w =>  -- mem.go:99
  oPick Tryd.prog t37 t43 (Go.Value.bool Bool.false) Kp w fun t44 w =>  -- mem.go:99
  R t44 w) w) w) w) w) w) w) w) w) w) w) w) w) w) w) w) w) w) w) w) w) w) w) w) w) w
def a_trommelmem_SamePred : Ann := ⟨[], [], [], []⟩
theorem e_trommelmem_SamePred (R : VK) (Kp : PK) (p0 p1 : Value) (w : World) : W Tryd.prog a_trommelmem_SamePred Kp (bodyOf Tryd.f78) (retQ Tryd.prog Tryd.f78.results.toList R) (env0 [p0, p1]) w = n_trommelmem_SamePred R Kp p0 p1 w := by kernel_rfl
theorem c_trommelmem_SamePred {R : VK} {Kp : PK} {p0 p1 : Value} {w : World} (h : n_trommelmem_SamePred R Kp p0 p1 w) : Calls Tryd.prog 78 #[p0, p1] w (callR R Kp) :=
  calls_of_N (an := a_trommelmem_SamePred) (args := [p0, p1]) mixed_N2 Tryd.func78 (by kernel_rfl) (by kernel_rfl) (by kernel_rfl) (e_trommelmem_SamePred R Kp p0 p1 w) h

/-- trommel/trommelmem.KeptInts -/
def n_trommelmem_KeptInts (R : VK) (Kp : PK) (p0 p1 : Value) (w : World) : Prop :=
  oBI Tryd.prog Go.Builtin.len #[22] 3 [false] [p0] Kp w fun t8 w =>  -- mem.go:24
  oBin Tryd.prog Go.BinOp.add 3 (Go.Operand.tmp 8) (Go.Operand.const (Go.Value.int Go.IntKind.i64 2)) t8 (Go.Value.int Go.IntKind.i64 2) Kp w fun t9 w =>  -- mem.go:24
  oSL Tryd.prog 22 p0 none (some t9) none Kp w fun t10 w =>  -- mem.go:24
  oBI Tryd.prog Go.Builtin.len #[22] 3 [false] [p0] Kp w fun t12 w =>  -- mem.go:25
  oBI Tryd.prog Go.Builtin.len #[22] 3 [false] [p1] Kp w fun t14 w =>  -- mem.go:25
  oBin Tryd.prog Go.BinOp.neq 3 (Go.Operand.tmp 12) (Go.Operand.tmp 14) t12 t14 Kp w fun t15 w =>  -- mem.go:25
  oG (isB t15 false) (fun K => K t10 w) (fun t17 w =>  -- mem.go:25
  oG (isB t15 false) (fun K => K p0 w) (fun t18 w =>  -- mem.go:25
  oG (isB t15 false) (fun K => oBI Tryd.prog Go.Builtin.len #[22] 3 [false] [t18] Kp w K) (fun t19 w =>  -- mem.go:25
  oG (isB t15 false) (fun K => oIA Tryd.prog 22 t17 t19 Kp w K) (fun t20 w =>  -- mem.go:25
  oG (isB t15 false) (fun K => oLoad Tryd.prog 3 t20 Kp w K) (fun t21 w =>  -- mem.go:25
  oG (isB t15 false) (fun K => oBin Tryd.prog Go.BinOp.neq 3 (Go.Operand.tmp 21) (Go.Operand.const (Go.Value.int Go.IntKind.i64 (-77))) t21 (Go.Value.int Go.IntKind.i64 (-77)) Kp w K) (fun t22 w =>  -- mem.go:25
  oPick Tryd.prog t15 (Go.Value.bool Bool.true) t22 Kp w fun t23 w =>  -- mem.go:25
  oG (isB t23 false) (fun K => K t10 w) (fun t25 w =>  -- mem.go:25
  oG (isB t23 false) (fun K => K p0 w) (fun t26 w =>  -- mem.go:25
  oG (isB t23 false) (fun K => oBI Tryd.prog Go.Builtin.len #[22] 3 [false] [t26] Kp w K) (fun t27 w =>  -- mem.go:25
  oG (isB t23 false) (fun K => oBin Tryd.prog Go.BinOp.add 3 (Go.Operand.tmp 27) (Go.Operand.const (Go.Value.int Go.IntKind.i64 1)) t27 (Go.Value.int Go.IntKind.i64 1) Kp w K) (fun t28 w =>  -- mem.go:25
  oG (isB t23 false) (fun K => oIA Tryd.prog 22 t25 t28 Kp w K) (fun t29 w =>  -- mem.go:25
  oG (isB t23 false) (fun K => oLoad Tryd.prog 3 t29 Kp w K) (fun t30 w =>  -- mem.go:25
  oG (isB t23 false) (fun K => oBin Tryd.prog Go.BinOp.neq 3 (Go.Operand.tmp 30) (Go.Operand.const (Go.Value.int Go.IntKind.i64 (-78))) t30 (Go.Value.int Go.IntKind.i64 (-78)) Kp w K) (fun t31 w =>  -- mem.go:25
  oPick Tryd.prog t23 (Go.Value.bool Bool.true) t31 Kp w fun t32 w =>  -- mem.go:25
  oCond t32 (
   R (Go.Value.bool Bool.false) w) (
   oCall Tryd.prog 116 [p0, p1] Kp w fun t35 w =>  -- mem.go:28
   R t35 w)) w) w) w) w) w) w) w) w) w) w) w) w) w
def a_trommelmem_KeptInts : Ann := ⟨[], [], [], []⟩
theorem e_trommelmem_KeptInts (R : VK) (Kp : PK) (p0 p1 : Value) (w : World) : W Tryd.prog a_trommelmem_KeptInts Kp (bodyOf Tryd.f79) (retQ Tryd.prog Tryd.f79.results.toList R) (env0 [p0, p1]) w = n_trommelmem_KeptInts R Kp p0 p1 w := by kernel_rfl
theorem c_trommelmem_KeptInts {R : VK} {Kp : PK} {p0 p1 : Value} {w : World} (h : n_trommelmem_KeptInts R Kp p0 p1 w) : Calls Tryd.prog 79 #[p0, p1] w (callR R Kp) :=
  calls_of_N (an := a_trommelmem_KeptInts) (args := [p0, p1]) mixed_N2 Tryd.func79 (by kernel_rfl) (by kernel_rfl) (by kernel_rfl) (e_trommelmem_KeptInts R Kp p0 p1 w) h

/-- trommel/trommelmem.KeptWords -/
def n_trommelmem_KeptWords (R : VK) (Kp : PK) (p0 p1 : Value) (w : World) : Prop :=
  oBI Tryd.prog Go.Builtin.len #[23] 3 [false] [p0] Kp w fun t8 w =>  -- mem.go:32
  oBin Tryd.prog Go.BinOp.add 3 (Go.Operand.tmp 8) (Go.Operand.const (Go.Value.int Go.IntKind.i64 2)) t8 (Go.Value.int Go.IntKind.i64 2) Kp w fun t9 w =>  -- mem.go:32
  oSL Tryd.prog 23 p0 none (some t9) none Kp w fun t10 w =>  -- mem.go:32
  oBI Tryd.prog Go.Builtin.len #[23] 3 [false] [p0] Kp w fun t12 w =>  -- mem.go:33
  oBI Tryd.prog Go.Builtin.len #[23] 3 [false] [p1] Kp w fun t14 w =>  -- mem.go:33
  oBin Tryd.prog Go.BinOp.neq 3 (Go.Operand.tmp 12) (Go.Operand.tmp 14) t12 t14 Kp w fun t15 w =>  -- mem.go:33
  oG (isB t15 false) (fun K => K t10 w) (fun t17 w =>  -- mem.go:33
  oG (isB t15 false) (fun K => K p0 w) (fun t18 w =>  -- mem.go:33
  oG (isB t15 false) (fun K => oBI Tryd.prog Go.Builtin.len #[23] 3 [false] [t18] Kp w K) (fun t19 w =>  -- mem.go:33
  oG (isB t15 false) (fun K => oIA Tryd.prog 23 t17 t19 Kp w K) (fun t20 w =>  -- mem.go:33
  oG (isB t15 false) (fun K => oLoad Tryd.prog 9 t20 Kp w K) (fun t21 w =>  -- mem.go:33
  oG (isB t15 false) (fun K => oBin Tryd.prog Go.BinOp.neq 9 (Go.Operand.tmp 21) (Go.Operand.const (Go.Value.string (ByteArray.mk #[115, 112, 97, 114, 101]))) t21 (Go.Value.string (ByteArray.mk #[115, 112, 97, 114, 101])) Kp w K) (fun t22 w =>  -- mem.go:33
  oPick Tryd.prog t15 (Go.Value.bool Bool.true) t22 Kp w fun t23 w =>  -- mem.go:33
  oG (isB t23 false) (fun K => K t10 w) (fun t25 w =>  -- mem.go:33
  oG (isB t23 false) (fun K => K p0 w) (fun t26 w =>  -- mem.go:33
  oG (isB t23 false) (fun K => oBI Tryd.prog Go.Builtin.len #[23] 3 [false] [t26] Kp w K) (fun t27 w =>  -- mem.go:33
  oG (isB t23 false) (fun K => oBin Tryd.prog Go.BinOp.add 3 (Go.Operand.tmp 27) (Go.Operand.const (Go.Value.int Go.IntKind.i64 1)) t27 (Go.Value.int Go.IntKind.i64 1) Kp w K) (fun t28 w =>  -- mem.go:33
  oG (isB t23 false) (fun K => oIA Tryd.prog 23 t25 t28 Kp w K) (fun t29 w =>  -- mem.go:33
  oG (isB t23 false) (fun K => oLoad Tryd.prog 9 t29 Kp w K) (fun t30 w =>  -- mem.go:33
  oG (isB t23 false) (fun K => oBin Tryd.prog Go.BinOp.neq 9 (Go.Operand.tmp 30) (Go.Operand.const (Go.Value.string (ByteArray.mk #[114, 111, 111, 109]))) t30 (Go.Value.string (ByteArray.mk #[114, 111, 111, 109])) Kp w K) (fun t31 w =>  -- mem.go:33
  oPick Tryd.prog t23 (Go.Value.bool Bool.true) t31 Kp w fun t32 w =>  -- mem.go:33
  oCond t32 (
   R (Go.Value.bool Bool.false) w) (
   oCall Tryd.prog 117 [p0, p1] Kp w fun t35 w =>  -- mem.go:36
   R t35 w)) w) w) w) w) w) w) w) w) w) w) w) w) w
def a_trommelmem_KeptWords : Ann := ⟨[], [], [], []⟩
theorem e_trommelmem_KeptWords (R : VK) (Kp : PK) (p0 p1 : Value) (w : World) : W Tryd.prog a_trommelmem_KeptWords Kp (bodyOf Tryd.f80) (retQ Tryd.prog Tryd.f80.results.toList R) (env0 [p0, p1]) w = n_trommelmem_KeptWords R Kp p0 p1 w := by kernel_rfl
theorem c_trommelmem_KeptWords {R : VK} {Kp : PK} {p0 p1 : Value} {w : World} (h : n_trommelmem_KeptWords R Kp p0 p1 w) : Calls Tryd.prog 80 #[p0, p1] w (callR R Kp) :=
  calls_of_N (an := a_trommelmem_KeptWords) (args := [p0, p1]) mixed_N2 Tryd.func80 (by kernel_rfl) (by kernel_rfl) (by kernel_rfl) (e_trommelmem_KeptWords R Kp p0 p1 w) h

/-- trommel/trommelref04.few -/
def n_trommelref04_few (R : VK) (Kp : PK) (p0 p1 : Value) (w : World) : Prop :=
  nLoop [1, 5] [p1, (Go.Value.int Go.IntKind.i64 0)] w (fun f1 ag1 w =>  -- 1=left, 5=i
   oBI Tryd.prog Go.Builtin.len #[33] 3 [false] [p0] Kp w fun t8 w =>  -- ref.go:151
   oBin Tryd.prog Go.BinOp.lss 3 (Go.Operand.tmp 6) (Go.Operand.tmp 8) (f1 5) t8 Kp w fun t9 w =>  -- ref.go:151
   oG (isB t9 true) (fun K => K (f1 1) w) (fun t11 w =>  -- ref.go:151
   oG (isB t9 true) (fun K => oBin Tryd.prog Go.BinOp.gtr 3 (Go.Operand.tmp 11) (Go.Operand.const (Go.Value.int Go.IntKind.i64 0)) t11 (Go.Value.int Go.IntKind.i64 0) Kp w K) (fun t12 w =>  -- ref.go:151
   oPick Tryd.prog t9 t12 (Go.Value.bool Bool.false) Kp w fun t13 w =>  -- ref.go:151
   oCond t13 (
    oIA Tryd.prog 33 p0 (f1 5) Kp w fun t18 w =>  -- ref.go:152
    oFA Tryd.prog 35 t18 2 Kp w fun t19 w =>  -- ref.go:152
    oLoad Tryd.prog 33 t19 Kp w fun t20 w =>  -- ref.go:152
    oBin Tryd.prog Go.BinOp.sub 3 (Go.Operand.tmp 21) (Go.Operand.const (Go.Value.int Go.IntKind.i64 1)) (f1 1) (Go.Value.int Go.IntKind.i64 1) Kp w fun t22 w =>  -- ref.go:152
    oCall Tryd.prog 81 [t20, t22] Kp w fun t23 w =>  -- ref.go:152
    oBin Tryd.prog Go.BinOp.add 3 (Go.Operand.tmp 14) (Go.Operand.const (Go.Value.int Go.IntKind.i64 1)) (f1 5) (Go.Value.int Go.IntKind.i64 1) Kp w fun t15 w =>  -- ref.go:151
    ag1 [t23, t15] w) (
    R (f1 1) w)) w) w)
def a_trommelref04_few : Ann := ⟨[(2, [1, 5], 16777186)], [], [], []⟩
theorem e_trommelref04_few (R : VK) (Kp : PK) (p0 p1 : Value) (w : World) : W Tryd.prog a_trommelref04_few Kp (bodyOf Tryd.f81) (retQ Tryd.prog Tryd.f81.results.toList R) (env0 [p0, p1]) w = n_trommelref04_few R Kp p0 p1 w := by kernel_rfl
theorem c_trommelref04_few {R : VK} {Kp : PK} {p0 p1 : Value} {w : World} (h : n_trommelref04_few R Kp p0 p1 w) : Calls Tryd.prog 81 #[p0, p1] w (callR R Kp) :=
  calls_of_N (an := a_trommelref04_few) (args := [p0, p1]) mixed_N2 Tryd.func81 (by kernel_rfl) (by kernel_rfl) (by kernel_rfl) (e_trommelref04_few R Kp p0 p1 w) h

/-- trommel/tree.samePred -/
def n_tree_samePred (R : VK) (Kp : PK) (p0 p1 : Value) (w : World) : Prop :=
  oBox Tryd.prog 25 p0 Kp w fun t2 w =>  -- tree.go:89
  oBox Tryd.prog 25 p1 Kp w fun t3 w =>  -- tree.go:89
  oFA Tryd.prog 25 t2 0 Kp w fun t5 w =>  -- tree.go:90
  oLoad Tryd.prog 3 t5 Kp w fun t6 w =>  -- tree.go:90
  oFA Tryd.prog 25 t3 0 Kp w fun t7 w =>  -- tree.go:90
  oLoad Tryd.prog 3 t7 Kp w fun t8 w =>  -- tree.go:90
  oBin Tryd.prog Go.BinOp.eql 3 (Go.Operand.tmp 6) (Go.Operand.tmp 8) t6 t8 Kp w fun t9 w =>  -- tree.go:90
  oG (isB t9 true) (fun K => oFA Tryd.prog 25 t2 1 Kp w K) (fun t11 w =>  -- tree.go:90
  oG (isB t9 true) (fun K => oLoad Tryd.prog 9 t11 Kp w K) (fun t12 w =>  -- tree.go:90
  oG (isB t9 true) (fun K => oFA Tryd.prog 25 t3 1 Kp w K) (fun t13 w =>  -- tree.go:90
  oG (isB t9 true) (fun K => oLoad Tryd.prog 9 t13 Kp w K) (fun t14 w =>  -- tree.go:90
  oG (isB t9 true) (fun K => oBin Tryd.prog Go.BinOp.eql 9 (Go.Operand.tmp 12) (Go.Operand.tmp 14) t12 t14 Kp w K) (fun t15 w =>  -- tree.go:90
  oPick Tryd.prog t9 t15 (Go.Value.bool Bool.false) Kp w fun t16 w =>  -- tree.go:90
  oG (isB t16 true) (fun K => oFA Tryd.prog 25 t2 4 Kp w K) (fun t18 w =>  -- tree.go:90
  oG (isB t16 true) (fun K => oLoad Tryd.prog 3 t18 Kp w K) (fun t19 w =>  -- tree.go:90
  oG (isB t16 true) (fun K => oFA Tryd.prog 25 t3 4 Kp w K) (fun t20 w =>  -- tree.go:90
  oG (isB t16 true) (fun K => oLoad Tryd.prog 3 t20 Kp w K) (fun t21 w =>  -- tree.go:90
  oG (isB t16 true) (fun K => oBin Tryd.prog Go.BinOp.eql 3 (Go.Operand.tmp 19) (Go.Operand.tmp 21) t19 t21 Kp w K) (fun t22 w =>  -- tree.go:90
  oPick Tryd.prog t16 t22 (Go.Value.bool Bool.false) Kp w fun t23 w =>  -- tree.go:90
  oG (isB t23 true) (fun K => oFA Tryd.prog 25 t2 5 Kp w K) (fun t25 w =>  -- tree.go:90
  oG (isB t23 true) (fun K => oLoad Tryd.prog 3 t25 Kp w K) (fun t26 w =>  -- tree.go:90
  oG (isB t23 true) (fun K => oFA Tryd.prog 25 t3 5 Kp w K) (fun t27 w =>  -- tree.go:90
  oG (isB t23 true) (fun K => oLoad Tryd.prog 3 t27 Kp w K) (fun t28 w =>  -- tree.go:90
  oG (isB t23 true) (fun K => oBin Tryd.prog Go.BinOp.eql 3 (Go.Operand.tmp 26) (Go.Operand.tmp 28) t26 t28 Kp w K) (fun t29 w =>  -- tree.go:90
  oPick Tryd.prog t23 t29 (Go.Value.bool Bool.false) Kp w fun t30 w =>  -- tree.go:90
  oG (isB t30 true) (fun K => oFA Tryd.prog 25 t2 2 Kp w K) (fun t32 w =>  -- tree.go:90
  oG (isB t30 true) (fun K => oLoad Tryd.prog 22 t32 Kp w K) (fun t33 w =>  -- tree.go:90
  oG (isB t30 true) (fun K => oFA Tryd.prog 25 t3 2 Kp w K) (fun t34 w =>  -- tree.go:90
  oG (isB t30 true) (fun K => oLoad Tryd.prog 22 t34 Kp w K) (fun t35 w =>  -- tree.go:90
  oG (isB t30 true) (fun K => oCall Tryd.prog 118 [t33, t35] Kp w K) (fun t36 w =>  -- tree.go:90
  oPick Tryd.prog t30 t36 (Go.Value.bool Bool.false) Kp w fun t37 w =>  -- tree.go:90
  oG (isB t37 true) (fun K => oFA Tryd.prog 25 t2 3 Kp w K) (fun t39 w =>  -- tree.go:90
  oG (isB t37 true) (fun K => oLoad Tryd.prog 23 t39 Kp w K) (fun t40 w =>  -- tree.go:90
  oG (isB t37 true) (fun K => oFA Tryd.prog 25 t3 3 Kp w K) (fun t41 w =>  -- tree.go:90
  oG (isB t37 true) (fun K => oLoad Tryd.prog 23 t41 Kp w K) (fun t42 w =>  -- tree.go:90
  oG (isB t37 true) (fun K => oCall Tryd.prog 119 [t40, t42] Kp w K) (fun t43 w =>  -- tree.go:90
  oPick Tryd.prog t37 t43 (Go.Value.bool Bool.false) Kp w fun t44 w =>  -- tree.go:90
  R t44 w) w) w) w) w) w) w) w) w) w) w) w) w) w) w) w) w) w) w) w) w) w) w) w) w) w
def a_tree_samePred : Ann := ⟨[], [], [], []⟩
theorem e_tree_samePred (R : VK) (Kp : PK) (p0 p1 : Value) (w : World) : W Tryd.prog a_tree_samePred Kp (bodyOf Tryd.f82) (retQ Tryd.prog Tryd.f82.results.toList R) (env0 [p0, p1]) w = n_tree_samePred R Kp p0 p1 w := by kernel_rfl
theorem c_tree_samePred {R : VK} {Kp : PK} {p0 p1 : Value} {w : World} (h : n_tree_samePred R Kp p0 p1 w) : Calls Tryd.prog 82 #[p0, p1] w (callR R Kp) :=
  calls_of_N (an := a_tree_samePred) (args := [p0, p1]) mixed_N2 Tryd.func82 (by kernel_rfl) (by kernel_rfl) (by kernel_rfl) (e_tree_samePred R Kp p0 p1 w) h

/-- slices.EqualFunc[[]trommel/api.Node,[]trommel/api.Node,trommel/api.Node,trommel/api.Node] -/
def n_slices_EqualFunc_api_Node_api_Node_api_Node_api_Node (R : VK) (Kp : PK) (p0 p1 p2 : Value) (w : World) : Prop :=
  oBI Tryd.prog Go.Builtin.len #[33] 3 [false] [p0] Kp w fun t11 w =>  -- slices.go:38
  oBI Tryd.prog Go.Builtin.len #[33] 3 [false] [p1] Kp w fun t13 w =>  -- slices.go:38
  oBin Tryd.prog Go.BinOp.neq 3 (Go.Operand.tmp 11) (Go.Operand.tmp 13) t11 t13 Kp w fun t14 w =>  -- slices.go:38
  oCond t14 (
   R (Go.Value.bool Bool.false) w) (
   oBI Tryd.prog Go.Builtin.len #[33] 3 [false] [p0] Kp w fun t16 w =>  -- slices.go:41
   nLoop [17] [(Go.Value.int Go.IntKind.i64 0)] w (fun f1 ag1 w =>  -- 17=
    oBin Tryd.prog Go.BinOp.lss 3 (Go.Operand.tmp 17) (Go.Operand.tmp 16) (f1 17) t16 Kp w fun t18 w =>  -- slices.go:41
    oCond t18 (
     oIA Tryd.prog 33 p0 (f1 17) Kp w fun t20 w =>  -- slices.go:41
     oLoad Tryd.prog 35 t20 Kp w fun t21 w =>  -- slices.go:41
     oAlloc Tryd.prog 35 Kp w fun t8 w =>  -- slices.go:41
     oStore Tryd.prog 35 t8 t21 Kp w fun _t w =>  -- slices.go:41
     oIA Tryd.prog 33 p1 (f1 17) Kp w fun t24 w =>  -- slices.go:42
     oLoad Tryd.prog 35 t24 Kp w fun t25 w =>  -- slices.go:42
     oAlloc Tryd.prog 35 Kp w fun t9 w =>  -- slices.go:42
     oStore Tryd.prog 35 t9 t25 Kp w fun _t w =>  -- slices.go:42
     oLoad Tryd.prog 35 t8 Kp w fun t27 w =>  -- slices.go:43
     oLoad Tryd.prog 35 t9 Kp w fun t28 w =>  -- slices.go:43
     oCallV Tryd.prog p2 [t27, t28] Kp w fun t29 w =>  -- slices.go:43
     oUn Tryd.prog Go.UnOp.not t29 Kp w fun t30 w =>  -- slices.go:43
     oCond t30 (
      R (Go.Value.bool Bool.false) w) (
      oBin Tryd.prog Go.BinOp.add 3 (Go.Operand.tmp 17) (Go.Operand.const (Go.Value.int Go.IntKind.i64 1)) (f1 17) (Go.Value.int Go.IntKind.i64 1) Kp w fun t31 w =>  -- slices.go:41
      ag1 [t31] w)) (
     R (Go.Value.bool Bool.true) w)))
def a_slices_EqualFunc_api_Node_api_Node_api_Node_api_Node : Ann := ⟨[(4, [17], 4294837184)], [], [], []⟩
theorem e_slices_EqualFunc_api_Node_api_Node_api_Node_api_Node (R : VK) (Kp : PK) (p0 p1 p2 : Value) (w : World) : W Tryd.prog a_slices_EqualFunc_api_Node_api_Node_api_Node_api_Node Kp (bodyOf Tryd.f83) (retQ Tryd.prog Tryd.f83.results.toList R) (env0 [p0, p1, p2]) w = n_slices_EqualFunc_api_Node_api_Node_api_Node_api_Node R Kp p0 p1 p2 w := by kernel_rfl
theorem c_slices_EqualFunc_api_Node_api_Node_api_Node_api_Node {R : VK} {Kp : PK} {p0 p1 p2 : Value} {w : World} (h : n_slices_EqualFunc_api_Node_api_Node_api_Node_api_Node R Kp p0 p1 p2 w) : Calls Tryd.prog 83 #[p0, p1, p2] w (callR R Kp) :=
  calls_of_N (an := a_slices_EqualFunc_api_Node_api_Node_api_Node_api_Node) (args := [p0, p1, p2]) mixed_N2 Tryd.func83 (by kernel_rfl) (by kernel_rfl) (by kernel_rfl) (e_slices_EqualFunc_api_Node_api_Node_api_Node_api_Node R Kp p0 p1 p2 w) h

/-- trommel/tree.printed -/
def n_tree_printed (R : VK) (Kp : PK) (p0 : Value) (w : World) : Prop :=
  oBox Tryd.prog 35 p0 Kp w fun t1 w =>  -- tree.go:183
  oFA Tryd.prog 35 t1 1 Kp w fun t8 w =>  -- tree.go:184
  oLoad Tryd.prog 3 t8 Kp w fun t9 w =>  -- tree.go:184
  oBin Tryd.prog Go.BinOp.eql 3 (Go.Operand.tmp 9) (Go.Operand.const (Go.Value.int Go.IntKind.i64 1)) t9 (Go.Value.int Go.IntKind.i64 1) Kp w fun t10 w =>  -- tree.go:184
  oCond t10 (
   oFA Tryd.prog 35 t1 0 Kp w fun t11 w =>  -- tree.go:185
   oLoad Tryd.prog 25 t11 Kp w fun t12 w =>  -- tree.go:185
   oCall Tryd.prog 120 [t12] Kp w fun t13 w =>  -- tree.go:185
   R t13 w) (
   oFA Tryd.prog 35 t1 2 Kp w fun t14 w =>  -- tree.go:188
   oLoad Tryd.prog 33 t14 Kp w fun t15 w =>  -- tree.go:188
   oBI Tryd.prog Go.Builtin.len #[33] 3 [false] [t15] Kp w fun t16 w =>  -- tree.go:188
   nLoop [3, 17] [(Go.Value.slice Option.none 0 0), (Go.Value.int Go.IntKind.i64 0)] w (fun f1 ag1 w =>  -- 3=all, 17=
    oBin Tryd.prog Go.BinOp.lss 3 (Go.Operand.tmp 17) (Go.Operand.tmp 16) (f1 17) t16 Kp w fun t18 w =>  -- tree.go:188
    oCond t18 (
     oIA Tryd.prog 33 t15 (f1 17) Kp w fun t19 w =>  -- tree.go:188
     oLoad Tryd.prog 35 t19 Kp w fun t20 w =>  -- tree.go:188
     oAlloc Tryd.prog 35 Kp w fun t5 w =>  -- tree.go:188
     oStore Tryd.prog 35 t5 t20 Kp w fun _t w =>  -- tree.go:188
     oLoad Tryd.prog 35 t5 Kp w fun t21 w =>  -- tree.go:189
     oCall Tryd.prog 84 [t21] Kp w fun t22 w =>  -- tree.go:189
     nCut [6] (fun M2 =>
      oFA Tryd.prog 35 t5 1 Kp w fun t23 w =>  -- tree.go:190
      oLoad Tryd.prog 3 t23 Kp w fun t24 w =>  -- tree.go:190
      oBin Tryd.prog Go.BinOp.eql 3 (Go.Operand.tmp 24) (Go.Operand.const (Go.Value.int Go.IntKind.i64 4)) t24 (Go.Value.int Go.IntKind.i64 4) Kp w fun t25 w =>  -- tree.go:190
      oG (isB t25 false) (fun K => oFA Tryd.prog 35 t5 1 Kp w K) (fun t27 w =>  -- tree.go:190
      oG (isB t25 false) (fun K => oLoad Tryd.prog 3 t27 Kp w K) (fun t28 w =>  -- tree.go:190
      oG (isB t25 false) (fun K => oBin Tryd.prog Go.BinOp.eql 3 (Go.Operand.tmp 28) (Go.Operand.const (Go.Value.int Go.IntKind.i64 3)) t28 (Go.Value.int Go.IntKind.i64 3) Kp w K) (fun t29 w =>  -- tree.go:190
      oG (isB t25 false) (fun K => K t29 w) (fun t30 w =>  -- tree.go:190
      oG (isB t30 true) (fun K => oFA Tryd.prog 35 t1 1 Kp w K) (fun t31 w =>  -- tree.go:190
      oG (isB t30 true) (fun K => oLoad Tryd.prog 3 t31 Kp w K) (fun t32 w =>  -- tree.go:190
      oG (isB t30 true) (fun K => oBin Tryd.prog Go.BinOp.neq 3 (Go.Operand.tmp 32) (Go.Operand.const (Go.Value.int Go.IntKind.i64 4)) t32 (Go.Value.int Go.IntKind.i64 4) Kp w K) (fun t33 w =>  -- tree.go:190
      oG (isB t25 false) (fun K => oPick Tryd.prog t30 t33 (Go.Value.bool Bool.false) Kp w K) (fun t34 w =>  -- tree.go:190
      oPick Tryd.prog t25 (Go.Value.bool Bool.true) t34 Kp w fun t35 w =>  -- tree.go:190
      oCond t35 (
       oBin Tryd.prog Go.BinOp.add 9 (Go.Operand.const (Go.Value.string (ByteArray.mk #[40]))) (Go.Operand.tmp 36) (Go.Value.string (ByteArray.mk #[40])) t22 Kp w fun t37 w =>  -- tree.go:191
       oBin Tryd.prog Go.BinOp.add 9 (Go.Operand.tmp 37) (Go.Operand.const (Go.Value.string (ByteArray.mk #[41]))) t37 (Go.Value.string (ByteArray.mk #[41])) Kp w fun t38 w =>  -- tree.go:191
       M2 [t38] w) (
       M2 [t22] w)) w) w) w) w) w) w) w) w)
     (fun g2 w =>
      oBuildS Tryd.prog 23 1 [(0, (g2 6))] Kp w fun t41 w =>  -- tree.go:193
      oBI Tryd.prog Go.Builtin.append #[23, 23] 23 [false, false] [(f1 3), t41] Kp w fun t42 w =>  -- tree.go:193
      oBin Tryd.prog Go.BinOp.add 3 (Go.Operand.tmp 17) (Go.Operand.const (Go.Value.int Go.IntKind.i64 1)) (f1 17) (Go.Value.int Go.IntKind.i64 1) Kp w fun t43 w =>  -- tree.go:188
      ag1 [t42, t43] w)) (
     oFA Tryd.prog 35 t1 1 Kp w fun t45 w =>  -- tree.go:195
     oLoad Tryd.prog 3 t45 Kp w fun t46 w =>  -- tree.go:195
     oCall Tryd.prog 122 [t46] Kp w fun t47 w =>  -- tree.go:195
     oCall Tryd.prog 121 [(f1 3), t47] Kp w fun t48 w =>  -- tree.go:195
     oFA Tryd.prog 35 t1 1 Kp w fun t49 w =>  -- tree.go:196
     oLoad Tryd.prog 3 t49 Kp w fun t50 w =>  -- tree.go:196
     oBin Tryd.prog Go.BinOp.eql 3 (Go.Operand.tmp 50) (Go.Operand.const (Go.Value.int Go.IntKind.i64 2)) t50 (Go.Value.int Go.IntKind.i64 2) Kp w fun t51 w =>  -- tree.go:196
     oCond t51 (
      oBin Tryd.prog Go.BinOp.add 9 (Go.Operand.const (Go.Value.string (ByteArray.mk #[33]))) (Go.Operand.tmp 52) (Go.Value.string (ByteArray.mk #[33])) t48 Kp w fun t53 w =>  -- tree.go:197
      R t53 w) (
      R t48 w))))
def a_tree_printed : Ann := ⟨[(5, [3, 17], 17592185913448)], [(10, [6], 549747425344)], [], []⟩
theorem e_tree_printed (R : VK) (Kp : PK) (p0 : Value) (w : World) : W Tryd.prog a_tree_printed Kp (bodyOf Tryd.f84) (retQ Tryd.prog Tryd.f84.results.toList R) (env0 [p0]) w = n_tree_printed R Kp p0 w := by kernel_rfl
theorem c_tree_printed {R : VK} {Kp : PK} {p0 : Value} {w : World} (h : n_tree_printed R Kp p0 w) : Calls Tryd.prog 84 #[p0] w (callR R Kp) :=
  calls_of_N (an := a_tree_printed) (args := [p0]) mixed_N2 Tryd.func84 (by kernel_rfl) (by kernel_rfl) (by kernel_rfl) (e_tree_printed R Kp p0 w) h

/-- trommel/tree.leaf -/
def n_tree_leaf (R : VK) (Kp : PK) (p0 : Value) (w : World) : Prop :=
  oBox Tryd.prog 25 p0 Kp w fun t1 w =>  -- tree.go:113
  oAlloc Tryd.prog 35 Kp w fun t2 w =>  -- tree.go:113
  oLoad Tryd.prog 25 t1 Kp w fun t3 w =>  -- tree.go:113
  oBuild Tryd.prog 35 [(0, t3), (1, (Go.Value.int Go.IntKind.i64 1))] Kp w fun t4 w =>  -- tree.go:113
  oCall Tryd.prog 123 [t4] Kp w fun t5 w =>  -- tree.go:113
  oStore Tryd.prog 35 t2 t5 Kp w fun _t w =>  -- tree.go:113
  oRL Tryd.prog 35 t2 w fun r0 =>
  R r0 w
def a_tree_leaf : Ann := ⟨[], [], [], []⟩
theorem e_tree_leaf (R : VK) (Kp : PK) (p0 : Value) (w : World) : W Tryd.prog a_tree_leaf Kp (bodyOf Tryd.f85) (retQ Tryd.prog Tryd.f85.results.toList R) (env0 [p0]) w = n_tree_leaf R Kp p0 w := by kernel_rfl
theorem c_tree_leaf {R : VK} {Kp : PK} {p0 : Value} {w : World} (h : n_tree_leaf R Kp p0 w) : Calls Tryd.prog 85 #[p0] w (callR R Kp) :=
  calls_of_N (an := a_tree_leaf) (args := [p0]) mixed_N2 Tryd.func85 (by kernel_rfl) (by kernel_rfl) (by kernel_rfl) (e_tree_leaf R Kp p0 w) h

/-- trommel/tree.every[trommel/api.Node] -/
def n_tree_every_api_Node (R : VK) (Kp : PK) (p0 p1 : Value) (w : World) : Prop :=
  oBox Tryd.prog 95 p1 Kp w fun t3 w =>  -- tree.go:27
  oCall Tryd.prog 124 [p0, (Go.Value.func (Go.Fn.func 125) #[] #[t3])] Kp w fun t7 w =>  -- tree.go:28
  oUn Tryd.prog Go.UnOp.not t7 Kp w fun t8 w =>  -- tree.go:28
  R t8 w
def a_tree_every_api_Node : Ann := ⟨[], [], [], []⟩
theorem e_tree_every_api_Node (R : VK) (Kp : PK) (p0 p1 : Value) (w : World) : W Tryd.prog a_tree_every_api_Node Kp (bodyOf Tryd.f86) (retQ Tryd.prog Tryd.f86.results.toList R) (env0 [p0, p1]) w = n_tree_every_api_Node R Kp p0 p1 w := by kernel_rfl
theorem c_tree_every_api_Node {R : VK} {Kp : PK} {p0 p1 : Value} {w : World} (h : n_tree_every_api_Node R Kp p0 p1 w) : Calls Tryd.prog 86 #[p0, p1] w (callR R Kp) :=
  calls_of_N (an := a_tree_every_api_Node) (args := [p0, p1]) mixed_N2 Tryd.func86 (by kernel_rfl) (by kernel_rfl) (by kernel_rfl) (e_tree_every_api_Node R Kp p0 p1 w) h

/-- trommel/tree.Check$1 -/
def n_tree_Check_1 (R : VK) (Kp : PK) (p0 : Value) (w : World) : Prop :=
  oBox Tryd.prog 35 p0 Kp w fun t1 w =>  -- tree.go:68
  oLoad Tryd.prog 35 t1 Kp w fun t3 w =>  -- tree.go:68
  oCall Tryd.prog 39 [t3] Kp w fun t4 w =>  -- tree.go:68
  oBin Tryd.prog Go.BinOp.eql 28 (Go.Operand.tmp 4) (Go.Operand.const (Go.Value.int Go.IntKind.i64 0)) t4 (Go.Value.int Go.IntKind.i64 0) Kp w fun t5 w =>  -- tree.go:68
  R t5 w
def a_tree_Check_1 : Ann := ⟨[], [], [], []⟩
theorem e_tree_Check_1 (R : VK) (Kp : PK) (p0 : Value) (w : World) : W Tryd.prog a_tree_Check_1 Kp (bodyOf Tryd.f87) (retQ Tryd.prog Tryd.f87.results.toList R) (env0 [p0]) w = n_tree_Check_1 R Kp p0 w := by kernel_rfl
theorem c_tree_Check_1 {R : VK} {Kp : PK} {p0 : Value} {w : World} (h : n_tree_Check_1 R Kp p0 w) : Calls Tryd.prog 87 #[p0] w (callR R Kp) :=
  calls_of_N (an := a_tree_Check_1) (args := [p0]) mixed_N2 Tryd.func87 (by kernel_rfl) (by kernel_rfl) (by kernel_rfl) (e_tree_Check_1 R Kp p0 w) h

/-- trommel/tree.joined -/
def n_tree_joined (R : VK) (Kp : PK) (p0 p1 : Value) (w : World) : Prop :=
  oAlloc Tryd.prog 35 Kp w fun t4 w =>  -- tree.go:139
  oBI Tryd.prog Go.Builtin.len #[33] 3 [false] [p1] Kp w fun t6 w =>  -- tree.go:140
  oBin Tryd.prog Go.BinOp.eql 3 (Go.Operand.tmp 6) (Go.Operand.const (Go.Value.int Go.IntKind.i64 0)) t6 (Go.Value.int Go.IntKind.i64 0) Kp w fun t8 w =>  -- tree.go:141
  oCond t8 (
   oBuild Tryd.prog 35 [] Kp w fun t9 w =>  -- tree.go:142
   oStore Tryd.prog 35 t4 t9 Kp w fun _t w =>  -- tree.go:142
   oRL Tryd.prog 35 t4 w fun r0 =>
   R r0 w) (
   oBin Tryd.prog Go.BinOp.eql 3 (Go.Operand.tmp 6) (Go.Operand.const (Go.Value.int Go.IntKind.i64 1)) t6 (Go.Value.int Go.IntKind.i64 1) Kp w fun t11 w =>  -- tree.go:143
   oCond t11 (
    oIA Tryd.prog 33 p1 (Go.Value.int Go.IntKind.i64 0) Kp w fun t13 w =>  -- tree.go:144
    oLoad Tryd.prog 35 t13 Kp w fun t14 w =>  -- tree.go:144
    oCall Tryd.prog 123 [t14] Kp w fun t15 w =>  -- tree.go:144
    oStore Tryd.prog 35 t4 t15 Kp w fun _t w =>  -- tree.go:144
    oRL Tryd.prog 35 t4 w fun r0 =>
    R r0 w) (
    oCall Tryd.prog 89 [p1] Kp w fun t18 w =>  -- tree.go:146
    oBuild Tryd.prog 35 [(1, p0), (2, t18)] Kp w fun t19 w =>  -- tree.go:146
    oStore Tryd.prog 35 t4 t19 Kp w fun _t w =>  -- tree.go:146
    oRL Tryd.prog 35 t4 w fun r0 =>
    R r0 w))
def a_tree_joined : Ann := ⟨[], [], [], []⟩
theorem e_tree_joined (R : VK) (Kp : PK) (p0 p1 : Value) (w : World) : W Tryd.prog a_tree_joined Kp (bodyOf Tryd.f88) (retQ Tryd.prog Tryd.f88.results.toList R) (env0 [p0, p1]) w = n_tree_joined R Kp p0 p1 w := by kernel_rfl
theorem c_tree_joined {R : VK} {Kp : PK} {p0 p1 : Value} {w : World} (h : n_tree_joined R Kp p0 p1 w) : Calls Tryd.prog 88 #[p0, p1] w (callR R Kp) :=
  calls_of_N (an := a_tree_joined) (args := [p0, p1]) mixed_N2 Tryd.func88 (by kernel_rfl) (by kernel_rfl) (by kernel_rfl) (e_tree_joined R Kp p0 p1 w) h

/-- trommel/tree.copies -/
def n_tree_copies (R : VK) (Kp : PK) (p0 : Value) (w : World) : Prop :=
  oBI Tryd.prog Go.Builtin.len #[33] 3 [false] [p0] Kp w fun t7 w =>  -- tree.go:107
  nLoop [3, 8] [(Go.Value.slice Option.none 0 0), (Go.Value.int Go.IntKind.i64 0)] w (fun f1 ag1 w =>  -- 3=out, 8=
   oBin Tryd.prog Go.BinOp.lss 3 (Go.Operand.tmp 8) (Go.Operand.tmp 7) (f1 8) t7 Kp w fun t9 w =>  -- tree.go:107
   oCond t9 (
    oIA Tryd.prog 33 p0 (f1 8) Kp w fun t10 w =>  -- tree.go:107
    oLoad Tryd.prog 35 t10 Kp w fun t11 w =>  -- tree.go:107
    oAlloc Tryd.prog 35 Kp w fun t5 w =>  -- tree.go:107
    oStore Tryd.prog 35 t5 t11 Kp w fun _t w =>  -- tree.go:107
    oLoad Tryd.prog 35 t5 Kp w fun t13 w =>  -- tree.go:108
    oCall Tryd.prog 123 [t13] Kp w fun t14 w =>  -- tree.go:108
    oBuildS Tryd.prog 33 1 [(0, t14)] Kp w fun t15 w =>  -- tree.go:108
    oBI Tryd.prog Go.Builtin.append #[33, 33] 33 [false, false] [(f1 3), t15] Kp w fun t16 w =>  -- tree.go:108
    oBin Tryd.prog Go.BinOp.add 3 (Go.Operand.tmp 8) (Go.Operand.const (Go.Value.int Go.IntKind.i64 1)) (f1 8) (Go.Value.int Go.IntKind.i64 1) Kp w fun t17 w =>  -- tree.go:107
    ag1 [t16, t17] w) (
    R (f1 3) w))
def a_tree_copies : Ann := ⟨[(3, [3, 8], 261928)], [], [], []⟩
theorem e_tree_copies (R : VK) (Kp : PK) (p0 : Value) (w : World) : W Tryd.prog a_tree_copies Kp (bodyOf Tryd.f89) (retQ Tryd.prog Tryd.f89.results.toList R) (env0 [p0]) w = n_tree_copies R Kp p0 w := by kernel_rfl
theorem c_tree_copies {R : VK} {Kp : PK} {p0 : Value} {w : World} (h : n_tree_copies R Kp p0 w) : Calls Tryd.prog 89 #[p0] w (callR R Kp) :=
  calls_of_N (an := a_tree_copies) (args := [p0]) mixed_N2 Tryd.func89 (by kernel_rfl) (by kernel_rfl) (by kernel_rfl) (e_tree_copies R Kp p0 w) h

/-- trommel/trommelmem.OverPred -/
def n_trommelmem_OverPred (R : VK) (Kp : PK) (p0 : Value) (w : World) : Prop :=
  oBox Tryd.prog 25 p0 Kp w fun t1 w =>  -- mem.go:160
  oFA Tryd.prog 25 t1 2 Kp w fun t2 w =>  -- mem.go:161
  oLoad Tryd.prog 22 t2 Kp w fun t3 w =>  -- mem.go:161
  oCall Tryd.prog 37 [t3] Kp w fun t4 w =>  -- mem.go:161
  oFA Tryd.prog 25 t1 3 Kp w fun t5 w =>  -- mem.go:162
  oLoad Tryd.prog 23 t5 Kp w fun t6 w =>  -- mem.go:162
  oCall Tryd.prog 38 [t6] Kp w fun t7 w =>  -- mem.go:162
  R (Go.Value.tuple #[]) w
def a_trommelmem_OverPred : Ann := ⟨[], [], [], []⟩
theorem e_trommelmem_OverPred (R : VK) (Kp : PK) (p0 : Value) (w : World) : W Tryd.prog a_trommelmem_OverPred Kp (bodyOf Tryd.f90) (retQ Tryd.prog Tryd.f90.results.toList R) (env0 [p0]) w = n_trommelmem_OverPred R Kp p0 w := by kernel_rfl
theorem c_trommelmem_OverPred {R : VK} {Kp : PK} {p0 : Value} {w : World} (h : n_trommelmem_OverPred R Kp p0 w) : Calls Tryd.prog 90 #[p0] w (callR R Kp) :=
  calls_of_N (an := a_trommelmem_OverPred) (args := [p0]) mixed_N2 Tryd.func90 (by kernel_rfl) (by kernel_rfl) (by kernel_rfl) (e_trommelmem_OverPred R Kp p0 w) h

/-- trommel/lex.run -/
def n_lex_run (R : VK) (Kp : PK) (p0 p1 p2 : Value) (w : World) : Prop :=
  nLoop [1] [p1] w (fun f1 ag1 w =>  -- 1=i
   oBI Tryd.prog Go.Builtin.len #[9] 3 [false] [p0] Kp w fun t9 w =>  -- lex.go:21
   oBin Tryd.prog Go.BinOp.lss 3 (Go.Operand.tmp 7) (Go.Operand.tmp 9) (f1 1) t9 Kp w fun t10 w =>  -- lex.go:21
   oG (isB t10 true) (fun K => K p2 w) (fun t12 w =>  -- lex.go:21
   oG (isB t10 true) (fun K => K p0 w) (fun t13 w =>  -- lex.go:21
   oG (isB t10 true) (fun K => K (f1 1) w) (fun t14 w =>  -- lex.go:21
   oG (isB t10 true) (fun K => oIX Tryd.prog 9 t13 t14 Kp w K) (fun t15 w =>  -- lex.go:21
   oG (isB t10 true) (fun K => oCallV Tryd.prog t12 [t15] Kp w K) (fun t16 w =>  -- lex.go:21
   oPick Tryd.prog t10 t16 (Go.Value.bool Bool.false) Kp w fun t17 w =>  -- lex.go:21
   oCond t17 (
    oBin Tryd.prog Go.BinOp.add 3 (Go.Operand.tmp 18) (Go.Operand.const (Go.Value.int Go.IntKind.i64 1)) (f1 1) (Go.Value.int Go.IntKind.i64 1) Kp w fun t19 w =>  -- lex.go:22
    ag1 [t19] w) (
    R (f1 1) w)) w) w) w) w) w)
def a_lex_run : Ann := ⟨[(1, [1], 1048450)], [], [], []⟩
theorem e_lex_run (R : VK) (Kp : PK) (p0 p1 p2 : Value) (w : World) : W Tryd.prog a_lex_run Kp (bodyOf Tryd.f91) (retQ Tryd.prog Tryd.f91.results.toList R) (env0 [p0, p1, p2]) w = n_lex_run R Kp p0 p1 p2 w := by kernel_rfl
theorem c_lex_run {R : VK} {Kp : PK} {p0 p1 p2 : Value} {w : World} (h : n_lex_run R Kp p0 p1 p2 w) : Calls Tryd.prog 91 #[p0, p1, p2] w (callR R Kp) :=
  calls_of_N (an := a_lex_run) (args := [p0, p1, p2]) mixed_N2 Tryd.func91 (by kernel_rfl) (by kernel_rfl) (by kernel_rfl) (e_lex_run R Kp p0 p1 p2 w) h

/-- slices.ContainsFunc[[]int,int] -/
def n_slices_ContainsFunc_int_int (R : VK) (Kp : PK) (p0 p1 : Value) (w : World) : Prop :=
  oCall Tryd.prog 143 [p0, p1] Kp w fun t7 w =>  -- slices.go:125
  oBin Tryd.prog Go.BinOp.geq 3 (Go.Operand.tmp 7) (Go.Operand.const (Go.Value.int Go.IntKind.i64 0)) t7 (Go.Value.int Go.IntKind.i64 0) Kp w fun t8 w =>  -- slices.go:125
  R t8 w
def a_slices_ContainsFunc_int_int : Ann := ⟨[], [], [], []⟩
theorem e_slices_ContainsFunc_int_int (R : VK) (Kp : PK) (p0 p1 : Value) (w : World) : W Tryd.prog a_slices_ContainsFunc_int_int Kp (bodyOf Tryd.f111) (retQ Tryd.prog Tryd.f111.results.toList R) (env0 [p0, p1]) w = n_slices_ContainsFunc_int_int R Kp p0 p1 w := by kernel_rfl
theorem c_slices_ContainsFunc_int_int {R : VK} {Kp : PK} {p0 p1 : Value} {w : World} (h : n_slices_ContainsFunc_int_int R Kp p0 p1 w) : Calls Tryd.prog 111 #[p0, p1] w (callR R Kp) :=
  calls_of_N (an := a_slices_ContainsFunc_int_int) (args := [p0, p1]) mixed_N2 Tryd.func111 (by kernel_rfl) (by kernel_rfl) (by kernel_rfl) (e_slices_ContainsFunc_int_int R Kp p0 p1 w) h

/-- trommel/tree.every[int]$1 -/
def n_tree_every_int_1 (R : VK) (Kp : PK) (p0 p1 : Value) (w : World) : Prop :=
  oLoad Tryd.prog 85 p1 Kp w fun t4 w =>  -- tree.go:28
  oCallV Tryd.prog t4 [p0] Kp w fun t6 w =>  -- tree.go:28
  oUn Tryd.prog Go.UnOp.not t6 Kp w fun t7 w =>  -- tree.go:28
  R t7 w
def a_tree_every_int_1 : Ann := ⟨[], [], [], []⟩
theorem e_tree_every_int_1 (R : VK) (Kp : PK) (p0 p1 : Value) (w : World) : W Tryd.prog a_tree_every_int_1 Kp (bodyOf Tryd.f112) (retQ Tryd.prog Tryd.f112.results.toList R) (env0 [p0, p1]) w = n_tree_every_int_1 R Kp p0 p1 w := by kernel_rfl
theorem c_tree_every_int_1 {R : VK} {Kp : PK} {p0 p1 : Value} {w : World} (h : n_tree_every_int_1 R Kp p0 p1 w) : Calls Tryd.prog 112 #[p0, p1] w (callR R Kp) :=
  calls_of_N (an := a_tree_every_int_1) (args := [p0, p1]) mixed_N2 Tryd.func112 (by kernel_rfl) (by kernel_rfl) (by kernel_rfl) (e_tree_every_int_1 R Kp p0 p1 w) h

/-- slices.ContainsFunc[[]string,string] -/
def n_slices_ContainsFunc_string_string (R : VK) (Kp : PK) (p0 p1 : Value) (w : World) : Prop :=
  oCall Tryd.prog 144 [p0, p1] Kp w fun t7 w =>  -- slices.go:125
  oBin Tryd.prog Go.BinOp.geq 3 (Go.Operand.tmp 7) (Go.Operand.const (Go.Value.int Go.IntKind.i64 0)) t7 (Go.Value.int Go.IntKind.i64 0) Kp w fun t8 w =>  -- slices.go:125
  R t8 w
def a_slices_ContainsFunc_string_string : Ann := ⟨[], [], [], []⟩
theorem e_slices_ContainsFunc_string_string (R : VK) (Kp : PK) (p0 p1 : Value) (w : World) : W Tryd.prog a_slices_ContainsFunc_string_string Kp (bodyOf Tryd.f113) (retQ Tryd.prog Tryd.f113.results.toList R) (env0 [p0, p1]) w = n_slices_ContainsFunc_string_string R Kp p0 p1 w := by kernel_rfl
theorem c_slices_ContainsFunc_string_string {R : VK} {Kp : PK} {p0 p1 : Value} {w : World} (h : n_slices_ContainsFunc_string_string R Kp p0 p1 w) : Calls Tryd.prog 113 #[p0, p1] w (callR R Kp) :=
  calls_of_N (an := a_slices_ContainsFunc_string_string) (args := [p0, p1]) mixed_N2 Tryd.func113 (by kernel_rfl) (by kernel_rfl) (by kernel_rfl) (e_slices_ContainsFunc_string_string R Kp p0 p1 w) h

/-- trommel/tree.every[string]$1 -/
def n_tree_every_string_1 (R : VK) (Kp : PK) (p0 p1 : Value) (w : World) : Prop :=
  oLoad Tryd.prog 60 p1 Kp w fun t4 w =>  -- tree.go:28
  oCallV Tryd.prog t4 [p0] Kp w fun t6 w =>  -- tree.go:28
  oUn Tryd.prog Go.UnOp.not t6 Kp w fun t7 w =>  -- tree.go:28
  R t7 w
def a_tree_every_string_1 : Ann := ⟨[], [], [], []⟩
theorem e_tree_every_string_1 (R : VK) (Kp : PK) (p0 p1 : Value) (w : World) : W Tryd.prog a_tree_every_string_1 Kp (bodyOf Tryd.f114) (retQ Tryd.prog Tryd.f114.results.toList R) (env0 [p0, p1]) w = n_tree_every_string_1 R Kp p0 p1 w := by kernel_rfl
theorem c_tree_every_string_1 {R : VK} {Kp : PK} {p0 p1 : Value} {w : World} (h : n_tree_every_string_1 R Kp p0 p1 w) : Calls Tryd.prog 114 #[p0, p1] w (callR R Kp) :=
  calls_of_N (an := a_tree_every_string_1) (args := [p0, p1]) mixed_N2 Tryd.func114 (by kernel_rfl) (by kernel_rfl) (by kernel_rfl) (e_tree_every_string_1 R Kp p0 p1 w) h

/-- slices.Contains[[]bool,bool] -/
def n_slices_Contains_bool_bool (R : VK) (Kp : PK) (p0 p1 : Value) (w : World) : Prop :=
  oCall Tryd.prog 145 [p0, p1] Kp w fun t7 w =>  -- slices.go:118
  oBin Tryd.prog Go.BinOp.geq 3 (Go.Operand.tmp 7) (Go.Operand.const (Go.Value.int Go.IntKind.i64 0)) t7 (Go.Value.int Go.IntKind.i64 0) Kp w fun t8 w =>  -- slices.go:118
  R t8 w
def a_slices_Contains_bool_bool : Ann := ⟨[], [], [], []⟩
theorem e_slices_Contains_bool_bool (R : VK) (Kp : PK) (p0 p1 : Value) (w : World) : W Tryd.prog a_slices_Contains_bool_bool Kp (bodyOf Tryd.f115) (retQ Tryd.prog Tryd.f115.results.toList R) (env0 [p0, p1]) w = n_slices_Contains_bool_bool R Kp p0 p1 w := by kernel_rfl
theorem c_slices_Contains_bool_bool {R : VK} {Kp : PK} {p0 p1 : Value} {w : World} (h : n_slices_Contains_bool_bool R Kp p0 p1 w) : Calls Tryd.prog 115 #[p0, p1] w (callR R Kp) :=
  calls_of_N (an := a_slices_Contains_bool_bool) (args := [p0, p1]) mixed_N2 Tryd.func115 (by kernel_rfl) (by kernel_rfl) (by kernel_rfl) (e_slices_Contains_bool_bool R Kp p0 p1 w) h

/-- trommel/trommelmem.SameInts -/
def n_trommelmem_SameInts (R : VK) (Kp : PK) (p0 p1 : Value) (w : World) : Prop :=
  oBI Tryd.prog Go.Builtin.len #[22] 3 [false] [p0] Kp w fun t7 w =>  -- mem.go:46
  oBI Tryd.prog Go.Builtin.len #[22] 3 [false] [p1] Kp w fun t9 w =>  -- mem.go:46
  oBin Tryd.prog Go.BinOp.neq 3 (Go.Operand.tmp 7) (Go.Operand.tmp 9) t7 t9 Kp w fun t10 w =>  -- mem.go:46
  oCond t10 (
   R (Go.Value.bool Bool.false) w) (
   oBI Tryd.prog Go.Builtin.len #[22] 3 [false] [p0] Kp w fun t12 w =>  -- mem.go:49
   nLoop [13] [(Go.Value.int Go.IntKind.i64 0)] w (fun f1 ag1 w =>  -- 13=
    oBin Tryd.prog Go.BinOp.lss 3 (Go.Operand.tmp 13) (Go.Operand.tmp 12) (f1 13) t12 Kp w fun t14 w =>  -- mem.go:49
    oCond t14 (
     oIA Tryd.prog 22 p0 (f1 13) noP w.drew fun t18 w =>  -- mem.go:50
     oLD Tryd.prog 3 t18 w fun t19 w =>  -- mem.go:50
     oIA Tryd.prog 22 p1 (f1 13) noP w fun t22 w =>  -- mem.go:50
     oLD Tryd.prog 3 t22 w fun t23 w =>  -- mem.go:50
     oD (twin t19 t23) (oBin Tryd.prog Go.BinOp.neq 3 (Go.Operand.tmp 19) (Go.Operand.tmp 23) t19 t23 noP w (fun t24 w =>  -- mem.go:50
     oCond t24 (
      R (Go.Value.bool Bool.false) w) (
      oBin Tryd.prog Go.BinOp.add 3 (Go.Operand.tmp 13) (Go.Operand.const (Go.Value.int Go.IntKind.i64 1)) (f1 13) (Go.Value.int Go.IntKind.i64 1) Kp w fun t25 w =>  -- mem.go:49
      ag1 [t25] w)))) (
     R (Go.Value.bool Bool.true) w)))
def a_trommelmem_SameInts : Ann := ⟨[(4, [13], 67100720)], [], [], []⟩
theorem e_trommelmem_SameInts (R : VK) (Kp : PK) (p0 p1 : Value) (w : World) : W Tryd.prog a_trommelmem_SameInts Kp (bodyOf Tryd.f116) (retQ Tryd.prog Tryd.f116.results.toList R) (env0 [p0, p1]) w = n_trommelmem_SameInts R Kp p0 p1 w := by kernel_rfl
theorem c_trommelmem_SameInts {R : VK} {Kp : PK} {p0 p1 : Value} {w : World} (h : n_trommelmem_SameInts R Kp p0 p1 w) : Calls Tryd.prog 116 #[p0, p1] w (callR R Kp) :=
  calls_of_N (an := a_trommelmem_SameInts) (args := [p0, p1]) mixed_N2 Tryd.func116 (by kernel_rfl) (by kernel_rfl) (by kernel_rfl) (e_trommelmem_SameInts R Kp p0 p1 w) h

/-- trommel/trommelmem.SameWords -/
def n_trommelmem_SameWords (R : VK) (Kp : PK) (p0 p1 : Value) (w : World) : Prop :=
  oBI Tryd.prog Go.Builtin.len #[23] 3 [false] [p0] Kp w fun t7 w =>  -- mem.go:58
  oBI Tryd.prog Go.Builtin.len #[23] 3 [false] [p1] Kp w fun t9 w =>  -- mem.go:58
  oBin Tryd.prog Go.BinOp.neq 3 (Go.Operand.tmp 7) (Go.Operand.tmp 9) t7 t9 Kp w fun t10 w =>  -- mem.go:58
  oCond t10 (
   R (Go.Value.bool Bool.false) w) (
   oBI Tryd.prog Go.Builtin.len #[23] 3 [false] [p0] Kp w fun t12 w =>  -- mem.go:61
   nLoop [13] [(Go.Value.int Go.IntKind.i64 0)] w (fun f1 ag1 w =>  -- 13=
    oBin Tryd.prog Go.BinOp.lss 3 (Go.Operand.tmp 13) (Go.Operand.tmp 12) (f1 13) t12 Kp w fun t14 w =>  -- mem.go:61
    oCond t14 (
     oIA Tryd.prog 23 p0 (f1 13) noP w.drew fun t18 w =>  -- mem.go:62
     oLD Tryd.prog 9 t18 w fun t19 w =>  -- mem.go:62
     oIA Tryd.prog 23 p1 (f1 13) noP w fun t22 w =>  -- mem.go:62
     oLD Tryd.prog 9 t22 w fun t23 w =>  -- mem.go:62
     oD (twin t19 t23) (oBin Tryd.prog Go.BinOp.neq 9 (Go.Operand.tmp 19) (Go.Operand.tmp 23) t19 t23 noP w (fun t24 w =>  -- mem.go:62
     oCond t24 (
      R (Go.Value.bool Bool.false) w) (
      oBin Tryd.prog Go.BinOp.add 3 (Go.Operand.tmp 13) (Go.Operand.const (Go.Value.int Go.IntKind.i64 1)) (f1 13) (Go.Value.int Go.IntKind.i64 1) Kp w fun t25 w =>  -- mem.go:61
      ag1 [t25] w)))) (
     R (Go.Value.bool Bool.true) w)))
def a_trommelmem_SameWords : Ann := ⟨[(4, [13], 67100720)], [], [], []⟩
theorem e_trommelmem_SameWords (R : VK) (Kp : PK) (p0 p1 : Value) (w : World) : W Tryd.prog a_trommelmem_SameWords Kp (bodyOf Tryd.f117) (retQ Tryd.prog Tryd.f117.results.toList R) (env0 [p0, p1]) w = n_trommelmem_SameWords R Kp p0 p1 w := by kernel_rfl
theorem c_trommelmem_SameWords {R : VK} {Kp : PK} {p0 p1 : Value} {w : World} (h : n_trommelmem_SameWords R Kp p0 p1 w) : Calls Tryd.prog 117 #[p0, p1] w (callR R Kp) :=
  calls_of_N (an := a_trommelmem_SameWords) (args := [p0, p1]) mixed_N2 Tryd.func117 (by kernel_rfl) (by kernel_rfl) (by kernel_rfl) (e_trommelmem_SameWords R Kp p0 p1 w) h

/-- slices.Equal[[]int,int] -/
def n_slices_Equal_int_int (R : VK) (Kp : PK) (p0 p1 : Value) (w : World) : Prop :=
  oBI Tryd.prog Go.Builtin.len #[22] 3 [false] [p0] Kp w fun t7 w =>  -- slices.go:21
  oBI Tryd.prog Go.Builtin.len #[22] 3 [false] [p1] Kp w fun t9 w =>  -- slices.go:21
  oBin Tryd.prog Go.BinOp.neq 3 (Go.Operand.tmp 7) (Go.Operand.tmp 9) t7 t9 Kp w fun t10 w =>  -- slices.go:21
  oCond t10 (
   R (Go.Value.bool Bool.false) w) (
   oBI Tryd.prog Go.Builtin.len #[22] 3 [false] [p0] Kp w fun t12 w =>  -- slices.go:24
   nLoop [13] [(Go.Value.int Go.IntKind.i64 0)] w (fun f1 ag1 w =>  -- 13=
    oBin Tryd.prog Go.BinOp.lss 3 (Go.Operand.tmp 13) (Go.Operand.tmp 12) (f1 13) t12 Kp w fun t14 w =>  -- slices.go:24
    oCond t14 (
     oIA Tryd.prog 22 p0 (f1 13) noP w.drew fun t18 w =>  -- slices.go:25
     oLD Tryd.prog 3 t18 w fun t19 w =>  -- slices.go:25
     oIA Tryd.prog 22 p1 (f1 13) noP w fun t22 w =>  -- slices.go:25
     oLD Tryd.prog 3 t22 w fun t23 w =>  -- slices.go:25
     oD (twin t19 t23) (oBin Tryd.prog Go.BinOp.neq 3 (Go.Operand.tmp 19) (Go.Operand.tmp 23) t19 t23 noP w (fun t24 w =>  -- slices.go:25
     oCond t24 (
      R (Go.Value.bool Bool.false) w) (
      oBin Tryd.prog Go.BinOp.add 3 (Go.Operand.tmp 13) (Go.Operand.const (Go.Value.int Go.IntKind.i64 1)) (f1 13) (Go.Value.int Go.IntKind.i64 1) Kp w fun t25 w =>  -- slices.go:24
      ag1 [t25] w)))) (
     R (Go.Value.bool Bool.true) w)))
def a_slices_Equal_int_int : Ann := ⟨[(4, [13], 67100720)], [], [], []⟩
theorem e_slices_Equal_int_int (R : VK) (Kp : PK) (p0 p1 : Value) (w : World) : W Tryd.prog a_slices_Equal_int_int Kp (bodyOf Tryd.f118) (retQ Tryd.prog Tryd.f118.results.toList R) (env0 [p0, p1]) w = n_slices_Equal_int_int R Kp p0 p1 w := by kernel_rfl
theorem c_slices_Equal_int_int {R : VK} {Kp : PK} {p0 p1 : Value} {w : World} (h : n_slices_Equal_int_int R Kp p0 p1 w) : Calls Tryd.prog 118 #[p0, p1] w (callR R Kp) :=
  calls_of_N (an := a_slices_Equal_int_int) (args := [p0, p1]) mixed_N2 Tryd.func118 (by kernel_rfl) (by kernel_rfl) (by kernel_rfl) (e_slices_Equal_int_int R Kp p0 p1 w) h

/-- slices.Equal[[]string,string] -/
def n_slices_Equal_string_string (R : VK) (Kp : PK) (p0 p1 : Value) (w : World) : Prop :=
  oBI Tryd.prog Go.Builtin.len #[23] 3 [false] [p0] Kp w fun t7 w =>  -- slices.go:21
  oBI Tryd.prog Go.Builtin.len #[23] 3 [false] [p1] Kp w fun t9 w =>  -- slices.go:21
  oBin Tryd.prog Go.BinOp.neq 3 (Go.Operand.tmp 7) (Go.Operand.tmp 9) t7 t9 Kp w fun t10 w =>  -- slices.go:21
  oCond t10 (
   R (Go.Value.bool Bool.false) w) (
   oBI Tryd.prog Go.Builtin.len #[23] 3 [false] [p0] Kp w fun t12 w =>  -- slices.go:24
   nLoop [13] [(Go.Value.int Go.IntKind.i64 0)] w (fun f1 ag1 w =>  -- 13=
    oBin Tryd.prog Go.BinOp.lss 3 (Go.Operand.tmp 13) (Go.Operand.tmp 12) (f1 13) t12 Kp w fun t14 w =>  -- slices.go:24
    oCond t14 (
     oIA Tryd.prog 23 p0 (f1 13) noP w.drew fun t18 w =>  -- slices.go:25
     oLD Tryd.prog 9 t18 w fun t19 w =>  -- slices.go:25
     oIA Tryd.prog 23 p1 (f1 13) noP w fun t22 w =>  -- slices.go:25
     oLD Tryd.prog 9 t22 w fun t23 w =>  -- slices.go:25
     oD (twin t19 t23) (oBin Tryd.prog Go.BinOp.neq 9 (Go.Operand.tmp 19) (Go.Operand.tmp 23) t19 t23 noP w (fun t24 w =>  -- slices.go:25
     oCond t24 (
      R (Go.Value.bool Bool.false) w) (
      oBin Tryd.prog Go.BinOp.add 3 (Go.Operand.tmp 13) (Go.Operand.const (Go.Value.int Go.IntKind.i64 1)) (f1 13) (Go.Value.int Go.IntKind.i64 1) Kp w fun t25 w =>  -- slices.go:24
      ag1 [t25] w)))) (
     R (Go.Value.bool Bool.true) w)))
def a_slices_Equal_string_string : Ann := ⟨[(4, [13], 67100720)], [], [], []⟩
theorem e_slices_Equal_string_string (R : VK) (Kp : PK) (p0 p1 : Value) (w : World) : W Tryd.prog a_slices_Equal_string_string Kp (bodyOf Tryd.f119) (retQ Tryd.prog Tryd.f119.results.toList R) (env0 [p0, p1]) w = n_slices_Equal_string_string R Kp p0 p1 w := by kernel_rfl
theorem c_slices_Equal_string_string {R : VK} {Kp : PK} {p0 p1 : Value} {w : World} (h : n_slices_Equal_string_string R Kp p0 p1 w) : Calls Tryd.prog 119 #[p0, p1] w (callR R Kp) :=
  calls_of_N (an := a_slices_Equal_string_string) (args := [p0, p1]) mixed_N2 Tryd.func119 (by kernel_rfl) (by kernel_rfl) (by kernel_rfl) (e_slices_Equal_string_string R Kp p0 p1 w) h

/-- trommel/tree.predicate -/
def n_tree_predicate (R : VK) (Kp : PK) (p0 : Value) (w : World) : Prop :=
  oBox Tryd.prog 25 p0 Kp w fun t1 w =>  -- tree.go:164
  oFA Tryd.prog 25 t1 0 Kp w fun t3 w =>  -- tree.go:165
  oLoad Tryd.prog 3 t3 Kp w fun t4 w =>  -- tree.go:165
  oBin Tryd.prog Go.BinOp.eql 3 (Go.Operand.tmp 4) (Go.Operand.const (Go.Value.int Go.IntKind.i64 1)) t4 (Go.Value.int Go.IntKind.i64 1) Kp w fun t6 w =>  -- tree.go:166
  oCond t6 (
   ∃ S1 : World → Prop, S1 w.drew ∧
   oFA Tryd.prog 25 t1 1 noP w.drew fun t7 w =>  -- tree.go:167
   oHL Tryd.prog S1 9 t7 w fun t8 w =>  -- tree.go:167
   oD (twin t8 (Go.Value.string (ByteArray.mk #[32, 123]))) (oBin Tryd.prog Go.BinOp.add 9 (Go.Operand.tmp 8) (Go.Operand.const (Go.Value.string (ByteArray.mk #[32, 123]))) t8 (Go.Value.string (ByteArray.mk #[32, 123])) noP w (fun t9 w =>  -- tree.go:167
   oFA Tryd.prog 25 t1 2 noP w fun t10 w =>  -- tree.go:167
   oHL Tryd.prog S1 22 t10 w fun t11 w =>  -- tree.go:167
   oCall Tryd.prog 146 [t11, (Go.Value.func (Go.Fn.func 102) #[] #[])] noP w fun t12 w => S1 w ∧  -- tree.go:167
   oD (twin t9 t12) (oBin Tryd.prog Go.BinOp.add 9 (Go.Operand.tmp 9) (Go.Operand.tmp 12) t9 t12 noP w (fun t13 w =>  -- tree.go:167
   oD (twin t13 (Go.Value.string (ByteArray.mk #[125]))) (oBin Tryd.prog Go.BinOp.add 9 (Go.Operand.tmp 13) (Go.Operand.const (Go.Value.string (ByteArray.mk #[125]))) t13 (Go.Value.string (ByteArray.mk #[125])) noP w (fun t14 w =>  -- tree.go:167
   R t14 w))))))) (
   oBin Tryd.prog Go.BinOp.eql 3 (Go.Operand.tmp 4) (Go.Operand.const (Go.Value.int Go.IntKind.i64 2)) t4 (Go.Value.int Go.IntKind.i64 2) Kp w fun t16 w =>  -- tree.go:168
   oCond t16 (
    ∃ S2 : World → Prop, S2 w.drew ∧
    oFA Tryd.prog 25 t1 1 noP w.drew fun t17 w =>  -- tree.go:169
    oHL Tryd.prog S2 9 t17 w fun t18 w =>  -- tree.go:169
    oD (twin t18 (Go.Value.string (ByteArray.mk #[32, 123]))) (oBin Tryd.prog Go.BinOp.add 9 (Go.Operand.tmp 18) (Go.Operand.const (Go.Value.string (ByteArray.mk #[32, 123]))) t18 (Go.Value.string (ByteArray.mk #[32, 123])) noP w (fun t19 w =>  -- tree.go:169
    oFA Tryd.prog 25 t1 3 noP w fun t20 w =>  -- tree.go:169
    oHL Tryd.prog S2 23 t20 w fun t21 w =>  -- tree.go:169
    oCall Tryd.prog 147 [t21, (Go.Value.func (Go.Fn.func 54) #[] #[])] noP w fun t22 w => S2 w ∧  -- tree.go:169
    oD (twin t19 t22) (oBin Tryd.prog Go.BinOp.add 9 (Go.Operand.tmp 19) (Go.Operand.tmp 22) t19 t22 noP w (fun t23 w =>  -- tree.go:169
    oD (twin t23 (Go.Value.string (ByteArray.mk #[125]))) (oBin Tryd.prog Go.BinOp.add 9 (Go.Operand.tmp 23) (Go.Operand.const (Go.Value.string (ByteArray.mk #[125]))) t23 (Go.Value.string (ByteArray.mk #[125])) noP w (fun t24 w =>  -- tree.go:169
    R t24 w))))))) (
    oBin Tryd.prog Go.BinOp.eql 3 (Go.Operand.tmp 4) (Go.Operand.const (Go.Value.int Go.IntKind.i64 3)) t4 (Go.Value.int Go.IntKind.i64 3) Kp w fun t26 w =>  -- tree.go:170
    oCond t26 (
     ∃ S3 : World → Prop, S3 w.drew ∧
     oFA Tryd.prog 25 t1 1 noP w.drew fun t27 w =>  -- tree.go:171
     oHL Tryd.prog S3 9 t27 w fun t28 w =>  -- tree.go:171
     oD (twin t28 (Go.Value.string (ByteArray.mk #[32, 91]))) (oBin Tryd.prog Go.BinOp.add 9 (Go.Operand.tmp 28) (Go.Operand.const (Go.Value.string (ByteArray.mk #[32, 91]))) t28 (Go.Value.string (ByteArray.mk #[32, 91])) noP w (fun t29 w =>  -- tree.go:171
     oFA Tryd.prog 25 t1 4 noP w fun t30 w =>  -- tree.go:171
     oHL Tryd.prog S3 3 t30 w fun t31 w =>  -- tree.go:171
     oFA Tryd.prog 25 t1 5 noP w fun t32 w =>  -- tree.go:171
     oHL Tryd.prog S3 3 t32 w fun t33 w =>  -- tree.go:171
     oBuildS Tryd.prog 22 2 [(0, t31), (1, t33)] noP w fun t34 w => S3 w ∧  -- tree.go:171
     oCall Tryd.prog 146 [t34, (Go.Value.func (Go.Fn.func 102) #[] #[])] noP w fun t35 w => S3 w ∧  -- tree.go:171
     oD (twin t29 t35) (oBin Tryd.prog Go.BinOp.add 9 (Go.Operand.tmp 29) (Go.Operand.tmp 35) t29 t35 noP w (fun t36 w =>  -- tree.go:171
     oD (twin t36 (Go.Value.string (ByteArray.mk #[93]))) (oBin Tryd.prog Go.BinOp.add 9 (Go.Operand.tmp 36) (Go.Operand.const (Go.Value.string (ByteArray.mk #[93]))) t36 (Go.Value.string (ByteArray.mk #[93])) noP w (fun t37 w =>  -- tree.go:171
     R t37 w))))))) (
     ∃ S4 : World → Prop, S4 w.drew ∧
     oFA Tryd.prog 25 t1 1 noP w.drew fun t38 w =>  -- tree.go:173
     oHL Tryd.prog S4 9 t38 w fun t39 w =>  -- tree.go:173
     oD (twin t39 (Go.Value.string (ByteArray.mk #[32]))) (oBin Tryd.prog Go.BinOp.add 9 (Go.Operand.tmp 39) (Go.Operand.const (Go.Value.string (ByteArray.mk #[32]))) t39 (Go.Value.string (ByteArray.mk #[32])) noP w (fun t40 w =>  -- tree.go:173
     oFA Tryd.prog 25 t1 3 noP w fun t41 w =>  -- tree.go:173
     oHL Tryd.prog S4 23 t41 w fun t42 w =>  -- tree.go:173
     oCall Tryd.prog 147 [t42, (Go.Value.func (Go.Fn.func 54) #[] #[])] noP w fun t43 w => S4 w ∧  -- tree.go:173
     oD (twin t40 t43) (oBin Tryd.prog Go.BinOp.add 9 (Go.Operand.tmp 40) (Go.Operand.tmp 43) t40 t43 noP w (fun t44 w =>  -- tree.go:173
     oD (twin t44 (Go.Value.string (ByteArray.mk #[42]))) (oBin Tryd.prog Go.BinOp.add 9 (Go.Operand.tmp 44) (Go.Operand.const (Go.Value.string (ByteArray.mk #[42]))) t44 (Go.Value.string (ByteArray.mk #[42])) noP w (fun t45 w =>  -- tree.go:173
     R t45 w)))))))))
def a_tree_predicate : Ann := ⟨[], [], [], []⟩
theorem e_tree_predicate (R : VK) (Kp : PK) (p0 : Value) (w : World) : W Tryd.prog a_tree_predicate Kp (bodyOf Tryd.f120) (retQ Tryd.prog Tryd.f120.results.toList R) (env0 [p0]) w = n_tree_predicate R Kp p0 w := by kernel_rfl
theorem c_tree_predicate {R : VK} {Kp : PK} {p0 : Value} {w : World} (h : n_tree_predicate R Kp p0 w) : Calls Tryd.prog 120 #[p0] w (callR R Kp) :=
  calls_of_N (an := a_tree_predicate) (args := [p0]) mixed_N2 Tryd.func120 (by kernel_rfl) (by kernel_rfl) (by kernel_rfl) (e_tree_predicate R Kp p0 w) h

/-- trommel/tree.between -/
def n_tree_between (R : VK) (Kp : PK) (p0 : Value) (w : World) : Prop :=
  oBin Tryd.prog Go.BinOp.eql 3 (Go.Operand.tmp 3) (Go.Operand.const (Go.Value.int Go.IntKind.i64 4)) p0 (Go.Value.int Go.IntKind.i64 4) Kp w fun t4 w =>  -- tree.go:177
  oCond t4 (
   R (Go.Value.string (ByteArray.mk #[32, 124, 32])) w) (
   R (Go.Value.string (ByteArray.mk #[32, 38, 32])) w)
def a_tree_between : Ann := ⟨[], [], [], []⟩
theorem e_tree_between (R : VK) (Kp : PK) (p0 : Value) (w : World) : W Tryd.prog a_tree_between Kp (bodyOf Tryd.f122) (retQ Tryd.prog Tryd.f122.results.toList R) (env0 [p0]) w = n_tree_between R Kp p0 w := by kernel_rfl
theorem c_tree_between {R : VK} {Kp : PK} {p0 : Value} {w : World} (h : n_tree_between R Kp p0 w) : Calls Tryd.prog 122 #[p0] w (callR R Kp) :=
  calls_of_N (an := a_tree_between) (args := [p0]) mixed_N2 Tryd.func122 (by kernel_rfl) (by kernel_rfl) (by kernel_rfl) (e_tree_between R Kp p0 w) h

/-- trommel/tree.copied -/
def n_tree_copied (R : VK) (Kp : PK) (p0 : Value) (w : World) : Prop :=
  oBox Tryd.prog 35 p0 Kp w fun t1 w =>  -- tree.go:99
  oAlloc Tryd.prog 35 Kp w fun t2 w =>  -- tree.go:99
  ∃ S1 : World → Prop, S1 w.drew ∧
  oFA Tryd.prog 35 t1 0 noP w.drew fun t3 w =>  -- tree.go:100
  oFA Tryd.prog 25 t3 2 noP w fun t4 w =>  -- tree.go:100
  oHL Tryd.prog S1 22 t4 w fun t5 w =>  -- tree.go:100
  oCall Tryd.prog 149 [t5] noP w fun t6 w => S1 w ∧  -- tree.go:100
  oFA Tryd.prog 35 t1 0 noP w fun t7 w =>  -- tree.go:100
  oFA Tryd.prog 25 t7 3 noP w fun t8 w =>  -- tree.go:100
  oHL Tryd.prog S1 23 t8 w fun t9 w =>  -- tree.go:100
  oCall Tryd.prog 150 [t9] noP w fun t10 w =>  -- tree.go:100
  oFA Tryd.prog 35 t1 0 noP w fun t11 w =>  -- tree.go:100
  oFA Tryd.prog 25 t11 2 noP w fun t12 w =>  -- tree.go:100
  oStore Tryd.prog 22 t12 t6 noP w fun _t w =>  -- tree.go:100
  oFA Tryd.prog 35 t1 0 noP w fun t13 w =>  -- tree.go:100
  oFA Tryd.prog 25 t13 3 noP w fun t14 w =>  -- tree.go:100
  oStore Tryd.prog 23 t14 t10 noP w fun _t w =>  -- tree.go:100
  oFA Tryd.prog 35 t1 2 Kp w fun t15 w =>  -- tree.go:101
  oLoad Tryd.prog 33 t15 Kp w fun t16 w =>  -- tree.go:101
  oCall Tryd.prog 89 [t16] Kp w fun t17 w =>  -- tree.go:101
  oFA Tryd.prog 35 t1 2 Kp w fun t18 w =>  -- tree.go:101
  oStore Tryd.prog 33 t18 t17 Kp w fun _t w =>  -- tree.go:101
  oLoad Tryd.prog 35 t1 Kp w fun t19 w =>  -- tree.go:102
  oStore Tryd.prog 35 t2 t19 Kp w fun _t w =>  -- tree.go:102
  oRL Tryd.prog 35 t2 w fun r0 =>
  R r0 w
def a_tree_copied : Ann := ⟨[], [], [], []⟩
theorem e_tree_copied (R : VK) (Kp : PK) (p0 : Value) (w : World) : W Tryd.prog a_tree_copied Kp (bodyOf Tryd.f123) (retQ Tryd.prog Tryd.f123.results.toList R) (env0 [p0]) w = n_tree_copied R Kp p0 w := by kernel_rfl
theorem c_tree_copied {R : VK} {Kp : PK} {p0 : Value} {w : World} (h : n_tree_copied R Kp p0 w) : Calls Tryd.prog 123 #[p0] w (callR R Kp) :=
  calls_of_N (an := a_tree_copied) (args := [p0]) mixed_N2 Tryd.func123 (by kernel_rfl) (by kernel_rfl) (by kernel_rfl) (e_tree_copied R Kp p0 w) h

/-- slices.ContainsFunc[[]trommel/api.Node,trommel/api.Node] -/
def n_slices_ContainsFunc_api_Node_api_Node (R : VK) (Kp : PK) (p0 p1 : Value) (w : World) : Prop :=
  oCall Tryd.prog 151 [p0, p1] Kp w fun t7 w =>  -- slices.go:125
  oBin Tryd.prog Go.BinOp.geq 3 (Go.Operand.tmp 7) (Go.Operand.const (Go.Value.int Go.IntKind.i64 0)) t7 (Go.Value.int Go.IntKind.i64 0) Kp w fun t8 w =>  -- slices.go:125
  R t8 w
def a_slices_ContainsFunc_api_Node_api_Node : Ann := ⟨[], [], [], []⟩
theorem e_slices_ContainsFunc_api_Node_api_Node (R : VK) (Kp : PK) (p0 p1 : Value) (w : World) : W Tryd.prog a_slices_ContainsFunc_api_Node_api_Node Kp (bodyOf Tryd.f124) (retQ Tryd.prog Tryd.f124.results.toList R) (env0 [p0, p1]) w = n_slices_ContainsFunc_api_Node_api_Node R Kp p0 p1 w := by kernel_rfl
theorem c_slices_ContainsFunc_api_Node_api_Node {R : VK} {Kp : PK} {p0 p1 : Value} {w : World} (h : n_slices_ContainsFunc_api_Node_api_Node R Kp p0 p1 w) : Calls Tryd.prog 124 #[p0, p1] w (callR R Kp) :=
  calls_of_N (an := a_slices_ContainsFunc_api_Node_api_Node) (args := [p0, p1]) mixed_N2 Tryd.func124 (by kernel_rfl) (by kernel_rfl) (by kernel_rfl) (e_slices_ContainsFunc_api_Node_api_Node R Kp p0 p1 w) h

/-- trommel/tree.every[trommel/api.Node]$1 -/
def n_tree_every_api_Node_1 (R : VK) (Kp : PK) (p0 p1 : Value) (w : World) : Prop :=
  oBox Tryd.prog 35 p0 Kp w fun t2 w =>  -- tree.go:28
  oLoad Tryd.prog 95 p1 Kp w fun t4 w =>  -- tree.go:28
  oLoad Tryd.prog 35 t2 Kp w fun t5 w =>  -- tree.go:28
  oCallV Tryd.prog t4 [t5] Kp w fun t6 w =>  -- tree.go:28
  oUn Tryd.prog Go.UnOp.not t6 Kp w fun t7 w =>  -- tree.go:28
  R t7 w
def a_tree_every_api_Node_1 : Ann := ⟨[], [], [], []⟩
theorem e_tree_every_api_Node_1 (R : VK) (Kp : PK) (p0 p1 : Value) (w : World) : W Tryd.prog a_tree_every_api_Node_1 Kp (bodyOf Tryd.f125) (retQ Tryd.prog Tryd.f125.results.toList R) (env0 [p0, p1]) w = n_tree_every_api_Node_1 R Kp p0 p1 w := by kernel_rfl
theorem c_tree_every_api_Node_1 {R : VK} {Kp : PK} {p0 p1 : Value} {w : World} (h : n_tree_every_api_Node_1 R Kp p0 p1 w) : Calls Tryd.prog 125 #[p0, p1] w (callR R Kp) :=
  calls_of_N (an := a_tree_every_api_Node_1) (args := [p0, p1]) mixed_N2 Tryd.func125 (by kernel_rfl) (by kernel_rfl) (by kernel_rfl) (e_tree_every_api_Node_1 R Kp p0 p1 w) h

/-- slices.IndexFunc[[]int,int] -/
def n_slices_IndexFunc_int_int (R : VK) (Kp : PK) (p0 p1 : Value) (w : World) : Prop :=
  oBI Tryd.prog Go.Builtin.len #[22] 3 [false] [p0] Kp w fun t7 w =>  -- slices.go:108
  nLoop [8] [(Go.Value.int Go.IntKind.i64 0)] w (fun f1 ag1 w =>  -- 8=
   oBin Tryd.prog Go.BinOp.lss 3 (Go.Operand.tmp 8) (Go.Operand.tmp 7) (f1 8) t7 Kp w fun t9 w =>  -- slices.go:108
   oCond t9 (
    oIA Tryd.prog 22 p0 (f1 8) Kp w fun t14 w =>  -- slices.go:109
    oLoad Tryd.prog 3 t14 Kp w fun t15 w =>  -- slices.go:109
    oCallV Tryd.prog p1 [t15] Kp w fun t16 w =>  -- slices.go:109
    oCond t16 (
     R (f1 8) w) (
     oBin Tryd.prog Go.BinOp.add 3 (Go.Operand.tmp 8) (Go.Operand.const (Go.Value.int Go.IntKind.i64 1)) (f1 8) (Go.Value.int Go.IntKind.i64 1) Kp w fun t18 w =>  -- slices.go:108
     ag1 [t18] w)) (
    R (Go.Value.int Go.IntKind.i64 (-1)) w))
def a_slices_IndexFunc_int_int : Ann := ⟨[(2, [8], 524080)], [], [], []⟩
theorem e_slices_IndexFunc_int_int (R : VK) (Kp : PK) (p0 p1 : Value) (w : World) : W Tryd.prog a_slices_IndexFunc_int_int Kp (bodyOf Tryd.f143) (retQ Tryd.prog Tryd.f143.results.toList R) (env0 [p0, p1]) w = n_slices_IndexFunc_int_int R Kp p0 p1 w := by kernel_rfl
theorem c_slices_IndexFunc_int_int {R : VK} {Kp : PK} {p0 p1 : Value} {w : World} (h : n_slices_IndexFunc_int_int R Kp p0 p1 w) : Calls Tryd.prog 143 #[p0, p1] w (callR R Kp) :=
  calls_of_N (an := a_slices_IndexFunc_int_int) (args := [p0, p1]) mixed_N2 Tryd.func143 (by kernel_rfl) (by kernel_rfl) (by kernel_rfl) (e_slices_IndexFunc_int_int R Kp p0 p1 w) h

/-- slices.IndexFunc[[]string,string] -/
def n_slices_IndexFunc_string_string (R : VK) (Kp : PK) (p0 p1 : Value) (w : World) : Prop :=
  oBI Tryd.prog Go.Builtin.len #[23] 3 [false] [p0] Kp w fun t7 w =>  -- slices.go:108
  nLoop [8] [(Go.Value.int Go.IntKind.i64 0)] w (fun f1 ag1 w =>  -- 8=
   oBin Tryd.prog Go.BinOp.lss 3 (Go.Operand.tmp 8) (Go.Operand.tmp 7) (f1 8) t7 Kp w fun t9 w =>  -- slices.go:108
   oCond t9 (
    oIA Tryd.prog 23 p0 (f1 8) Kp w fun t14 w =>  -- slices.go:109
    oLoad Tryd.prog 9 t14 Kp w fun t15 w =>  -- slices.go:109
    oCallV Tryd.prog p1 [t15] Kp w fun t16 w =>  -- slices.go:109
    oCond t16 (
     R (f1 8) w) (
     oBin Tryd.prog Go.BinOp.add 3 (Go.Operand.tmp 8) (Go.Operand.const (Go.Value.int Go.IntKind.i64 1)) (f1 8) (Go.Value.int Go.IntKind.i64 1) Kp w fun t18 w =>  -- slices.go:108
     ag1 [t18] w)) (
    R (Go.Value.int Go.IntKind.i64 (-1)) w))
def a_slices_IndexFunc_string_string : Ann := ⟨[(2, [8], 524080)], [], [], []⟩
theorem e_slices_IndexFunc_string_string (R : VK) (Kp : PK) (p0 p1 : Value) (w : World) : W Tryd.prog a_slices_IndexFunc_string_string Kp (bodyOf Tryd.f144) (retQ Tryd.prog Tryd.f144.results.toList R) (env0 [p0, p1]) w = n_slices_IndexFunc_string_string R Kp p0 p1 w := by kernel_rfl
theorem c_slices_IndexFunc_string_string {R : VK} {Kp : PK} {p0 p1 : Value} {w : World} (h : n_slices_IndexFunc_string_string R Kp p0 p1 w) : Calls Tryd.prog 144 #[p0, p1] w (callR R Kp) :=
  calls_of_N (an := a_slices_IndexFunc_string_string) (args := [p0, p1]) mixed_N2 Tryd.func144 (by kernel_rfl) (by kernel_rfl) (by kernel_rfl) (e_slices_IndexFunc_string_string R Kp p0 p1 w) h

/-- slices.Index[[]bool,bool] -/
def n_slices_Index_bool_bool (R : VK) (Kp : PK) (p0 p1 : Value) (w : World) : Prop :=
  oBI Tryd.prog Go.Builtin.len #[121] 3 [false] [p0] Kp w fun t7 w =>  -- slices.go:97
  nLoop [8] [(Go.Value.int Go.IntKind.i64 0)] w (fun f1 ag1 w =>  -- 8=
   oBin Tryd.prog Go.BinOp.lss 3 (Go.Operand.tmp 8) (Go.Operand.tmp 7) (f1 8) t7 Kp w fun t9 w =>  -- slices.go:97
   oCond t9 (
    oIA Tryd.prog 121 p0 (f1 8) Kp w fun t14 w =>  -- slices.go:98
    oLoad Tryd.prog 4 t14 Kp w fun t15 w =>  -- slices.go:98
    oBin Tryd.prog Go.BinOp.eql 4 (Go.Operand.tmp 11) (Go.Operand.tmp 15) p1 t15 Kp w fun t16 w =>  -- slices.go:98
    oCond t16 (
     R (f1 8) w) (
     oBin Tryd.prog Go.BinOp.add 3 (Go.Operand.tmp 8) (Go.Operand.const (Go.Value.int Go.IntKind.i64 1)) (f1 8) (Go.Value.int Go.IntKind.i64 1) Kp w fun t18 w =>  -- slices.go:97
     ag1 [t18] w)) (
    R (Go.Value.int Go.IntKind.i64 (-1)) w))
def a_slices_Index_bool_bool : Ann := ⟨[(2, [8], 524080)], [], [], []⟩
theorem e_slices_Index_bool_bool (R : VK) (Kp : PK) (p0 p1 : Value) (w : World) : W Tryd.prog a_slices_Index_bool_bool Kp (bodyOf Tryd.f145) (retQ Tryd.prog Tryd.f145.results.toList R) (env0 [p0, p1]) w = n_slices_Index_bool_bool R Kp p0 p1 w := by kernel_rfl
theorem c_slices_Index_bool_bool {R : VK} {Kp : PK} {p0 p1 : Value} {w : World} (h : n_slices_Index_bool_bool R Kp p0 p1 w) : Calls Tryd.prog 145 #[p0, p1] w (callR R Kp) :=
  calls_of_N (an := a_slices_Index_bool_bool) (args := [p0, p1]) mixed_N2 Tryd.func145 (by kernel_rfl) (by kernel_rfl) (by kernel_rfl) (e_slices_Index_bool_bool R Kp p0 p1 w) h

/-- trommel/tree.listed[int] -/
def n_tree_listed_int (R : VK) (Kp : PK) (p0 p1 : Value) (w : World) : Prop :=
  oBI Tryd.prog Go.Builtin.len #[22] 3 [false] [p0] Kp w fun t9 w =>  -- tree.go:158
  nLoop [5, 10] [(Go.Value.slice Option.none 0 0), (Go.Value.int Go.IntKind.i64 0)] w (fun f1 ag1 w =>  -- 5=all, 10=
   oBin Tryd.prog Go.BinOp.lss 3 (Go.Operand.tmp 10) (Go.Operand.tmp 9) (f1 10) t9 Kp w fun t11 w =>  -- tree.go:158
   oCond t11 (
    oIA Tryd.prog 22 p0 (f1 10) Kp w fun t12 w =>  -- tree.go:158
    oLoad Tryd.prog 3 t12 Kp w fun t13 w =>  -- tree.go:158
    oCallV Tryd.prog p1 [t13] Kp w fun t17 w =>  -- tree.go:159
    oBuildS Tryd.prog 23 1 [(0, t17)] Kp w fun t18 w =>  -- tree.go:159
    oBI Tryd.prog Go.Builtin.append #[23, 23] 23 [false, false] [(f1 5), t18] Kp w fun t19 w =>  -- tree.go:159
    oBin Tryd.prog Go.BinOp.add 3 (Go.Operand.tmp 10) (Go.Operand.const (Go.Value.int Go.IntKind.i64 1)) (f1 10) (Go.Value.int Go.IntKind.i64 1) Kp w fun t20 w =>  -- tree.go:158
    ag1 [t19, t20] w) (
    oCall Tryd.prog 121 [(f1 5), (Go.Value.string (ByteArray.mk #[44, 32]))] Kp w fun t22 w =>  -- tree.go:161
    R t22 w))
def a_tree_listed_int : Ann := ⟨[(3, [5, 10], 2096288)], [], [], []⟩
theorem e_tree_listed_int (R : VK) (Kp : PK) (p0 p1 : Value) (w : World) : W Tryd.prog a_tree_listed_int Kp (bodyOf Tryd.f146) (retQ Tryd.prog Tryd.f146.results.toList R) (env0 [p0, p1]) w = n_tree_listed_int R Kp p0 p1 w := by kernel_rfl
theorem c_tree_listed_int {R : VK} {Kp : PK} {p0 p1 : Value} {w : World} (h : n_tree_listed_int R Kp p0 p1 w) : Calls Tryd.prog 146 #[p0, p1] w (callR R Kp) :=
  calls_of_N (an := a_tree_listed_int) (args := [p0, p1]) mixed_N2 Tryd.func146 (by kernel_rfl) (by kernel_rfl) (by kernel_rfl) (e_tree_listed_int R Kp p0 p1 w) h

/-- trommel/tree.listed[string] -/
def n_tree_listed_string (R : VK) (Kp : PK) (p0 p1 : Value) (w : World) : Prop :=
  oBI Tryd.prog Go.Builtin.len #[23] 3 [false] [p0] Kp w fun t9 w =>  -- tree.go:158
  nLoop [5, 10] [(Go.Value.slice Option.none 0 0), (Go.Value.int Go.IntKind.i64 0)] w (fun f1 ag1 w =>  -- 5=all, 10=
   oBin Tryd.prog Go.BinOp.lss 3 (Go.Operand.tmp 10) (Go.Operand.tmp 9) (f1 10) t9 Kp w fun t11 w =>  -- tree.go:158
   oCond t11 (
    oIA Tryd.prog 23 p0 (f1 10) Kp w fun t12 w =>  -- tree.go:158
    oLoad Tryd.prog 9 t12 Kp w fun t13 w =>  -- tree.go:158
    oCallV Tryd.prog p1 [t13] Kp w fun t17 w =>  -- tree.go:159
    oBuildS Tryd.prog 23 1 [(0, t17)] Kp w fun t18 w =>  -- tree.go:159
    oBI Tryd.prog Go.Builtin.append #[23, 23] 23 [false, false] [(f1 5), t18] Kp w fun t19 w =>  -- tree.go:159
    oBin Tryd.prog Go.BinOp.add 3 (Go.Operand.tmp 10) (Go.Operand.const (Go.Value.int Go.IntKind.i64 1)) (f1 10) (Go.Value.int Go.IntKind.i64 1) Kp w fun t20 w =>  -- tree.go:158
    ag1 [t19, t20] w) (
    oCall Tryd.prog 121 [(f1 5), (Go.Value.string (ByteArray.mk #[44, 32]))] Kp w fun t22 w =>  -- tree.go:161
    R t22 w))
def a_tree_listed_string : Ann := ⟨[(3, [5, 10], 2096288)], [], [], []⟩
theorem e_tree_listed_string (R : VK) (Kp : PK) (p0 p1 : Value) (w : World) : W Tryd.prog a_tree_listed_string Kp (bodyOf Tryd.f147) (retQ Tryd.prog Tryd.f147.results.toList R) (env0 [p0, p1]) w = n_tree_listed_string R Kp p0 p1 w := by kernel_rfl
theorem c_tree_listed_string {R : VK} {Kp : PK} {p0 p1 : Value} {w : World} (h : n_tree_listed_string R Kp p0 p1 w) : Calls Tryd.prog 147 #[p0, p1] w (callR R Kp) :=
  calls_of_N (an := a_tree_listed_string) (args := [p0, p1]) mixed_N2 Tryd.func147 (by kernel_rfl) (by kernel_rfl) (by kernel_rfl) (e_tree_listed_string R Kp p0 p1 w) h

/-- slices.Clone[[]int,int] -/
def n_slices_Clone_int_int (R : VK) (Kp : PK) (p0 : Value) (w : World) : Prop :=
  oBin Tryd.prog Go.BinOp.eql 22 (Go.Operand.tmp 3) (Go.Operand.const (Go.Value.slice Option.none 0 0)) p0 (Go.Value.slice Option.none 0 0) Kp w fun t4 w =>  -- slices.go:357
  oCond t4 (
   R (Go.Value.slice Option.none 0 0) w) (
   oBuildS Tryd.prog 22 0 [] Kp w fun t5 w =>  -- slices.go:362
   oBI Tryd.prog Go.Builtin.append #[22, 22] 22 [false, false] [t5, p0] Kp w fun t7 w =>  -- slices.go:362
   R t7 w)
def a_slices_Clone_int_int : Ann := ⟨[], [], [], []⟩
theorem e_slices_Clone_int_int (R : VK) (Kp : PK) (p0 : Value) (w : World) : W Tryd.prog a_slices_Clone_int_int Kp (bodyOf Tryd.f149) (retQ Tryd.prog Tryd.f149.results.toList R) (env0 [p0]) w = n_slices_Clone_int_int R Kp p0 w := by kernel_rfl
theorem c_slices_Clone_int_int {R : VK} {Kp : PK} {p0 : Value} {w : World} (h : n_slices_Clone_int_int R Kp p0 w) : Calls Tryd.prog 149 #[p0] w (callR R Kp) :=
  calls_of_N (an := a_slices_Clone_int_int) (args := [p0]) mixed_N2 Tryd.func149 (by kernel_rfl) (by kernel_rfl) (by kernel_rfl) (e_slices_Clone_int_int R Kp p0 w) h

/-- slices.Clone[[]string,string] -/
def n_slices_Clone_string_string (R : VK) (Kp : PK) (p0 : Value) (w : World) : Prop :=
  oBin Tryd.prog Go.BinOp.eql 23 (Go.Operand.tmp 3) (Go.Operand.const (Go.Value.slice Option.none 0 0)) p0 (Go.Value.slice Option.none 0 0) Kp w fun t4 w =>  -- slices.go:357
  oCond t4 (
   R (Go.Value.slice Option.none 0 0) w) (
   oBuildS Tryd.prog 23 0 [] Kp w fun t5 w =>  -- slices.go:362
   oBI Tryd.prog Go.Builtin.append #[23, 23] 23 [false, false] [t5, p0] Kp w fun t7 w =>  -- slices.go:362
   R t7 w)
def a_slices_Clone_string_string : Ann := ⟨[], [], [], []⟩
theorem e_slices_Clone_string_string (R : VK) (Kp : PK) (p0 : Value) (w : World) : W Tryd.prog a_slices_Clone_string_string Kp (bodyOf Tryd.f150) (retQ Tryd.prog Tryd.f150.results.toList R) (env0 [p0]) w = n_slices_Clone_string_string R Kp p0 w := by kernel_rfl
theorem c_slices_Clone_string_string {R : VK} {Kp : PK} {p0 : Value} {w : World} (h : n_slices_Clone_string_string R Kp p0 w) : Calls Tryd.prog 150 #[p0] w (callR R Kp) :=
  calls_of_N (an := a_slices_Clone_string_string) (args := [p0]) mixed_N2 Tryd.func150 (by kernel_rfl) (by kernel_rfl) (by kernel_rfl) (e_slices_Clone_string_string R Kp p0 w) h

/-- slices.IndexFunc[[]trommel/api.Node,trommel/api.Node] -/
def n_slices_IndexFunc_api_Node_api_Node (R : VK) (Kp : PK) (p0 p1 : Value) (w : World) : Prop :=
  oBI Tryd.prog Go.Builtin.len #[33] 3 [false] [p0] Kp w fun t7 w =>  -- slices.go:108
  nLoop [8] [(Go.Value.int Go.IntKind.i64 0)] w (fun f1 ag1 w =>  -- 8=
   oBin Tryd.prog Go.BinOp.lss 3 (Go.Operand.tmp 8) (Go.Operand.tmp 7) (f1 8) t7 Kp w fun t9 w =>  -- slices.go:108
   oCond t9 (
    oIA Tryd.prog 33 p0 (f1 8) Kp w fun t14 w =>  -- slices.go:109
    oLoad Tryd.prog 35 t14 Kp w fun t15 w =>  -- slices.go:109
    oCallV Tryd.prog p1 [t15] Kp w fun t16 w =>  -- slices.go:109
    oCond t16 (
     R (f1 8) w) (
     oBin Tryd.prog Go.BinOp.add 3 (Go.Operand.tmp 8) (Go.Operand.const (Go.Value.int Go.IntKind.i64 1)) (f1 8) (Go.Value.int Go.IntKind.i64 1) Kp w fun t18 w =>  -- slices.go:108
     ag1 [t18] w)) (
    R (Go.Value.int Go.IntKind.i64 (-1)) w))
def a_slices_IndexFunc_api_Node_api_Node : Ann := ⟨[(2, [8], 524080)], [], [], []⟩
theorem e_slices_IndexFunc_api_Node_api_Node (R : VK) (Kp : PK) (p0 p1 : Value) (w : World) : W Tryd.prog a_slices_IndexFunc_api_Node_api_Node Kp (bodyOf Tryd.f151) (retQ Tryd.prog Tryd.f151.results.toList R) (env0 [p0, p1]) w = n_slices_IndexFunc_api_Node_api_Node R Kp p0 p1 w := by kernel_rfl
theorem c_slices_IndexFunc_api_Node_api_Node {R : VK} {Kp : PK} {p0 p1 : Value} {w : World} (h : n_slices_IndexFunc_api_Node_api_Node R Kp p0 p1 w) : Calls Tryd.prog 151 #[p0, p1] w (callR R Kp) :=
  calls_of_N (an := a_slices_IndexFunc_api_Node_api_Node) (args := [p0, p1]) mixed_N2 Tryd.func151 (by kernel_rfl) (by kernel_rfl) (by kernel_rfl) (e_slices_IndexFunc_api_Node_api_Node R Kp p0 p1 w) h

end Go.Proofs.YtlbihkgfejgefaaDoor
