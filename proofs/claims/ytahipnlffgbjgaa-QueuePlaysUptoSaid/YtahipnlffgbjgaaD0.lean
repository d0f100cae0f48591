/- Printed by structs.py (a program of ours): struct types as Lean structures, and how they are read. -/
import Derived.Test.YtahipnlffgbjgaaR0
import Derived.Test.YtahipnlffgbjgaaN0
namespace Go.Proofs.Ytahipnlffgbjgaa
open Go L Go.ChangeShapes Go.WideShapes Go.ChangeAt Go.RowKit
set_option linter.unusedVariables false

/-- trommellaw21.Op -/
structure D_trommellaw21_Op where
  kind : Int
  which : Int
  items : List Int
  n : Int
def Ty_trommellaw21_Op : Ty D_trommellaw21_Op where
  n := 4
  rep I us a := ∃ v2 : Value, us = [.int .i64 a.kind, .int .i64 a.which, v2, .int .i64 a.n] ∧ (-9223372036854775808 ≤ a.kind ∧ a.kind ≤ 9223372036854775807) ∧ (-9223372036854775808 ≤ a.which ∧ a.which ≤ 9223372036854775807) ∧ RSl Ty.int I v2 a.items ∧ (-9223372036854775808 ≤ a.n ∧ a.n ≤ 9223372036854775807)
  len h := by obtain ⟨v2, rfl, h0, h1, h2, h3⟩ := h; rfl
  mono hle h := by obtain ⟨v2, rfl, h0, h1, h2, h3⟩ := h; exact ⟨v2, rfl, h0, h1, h2.mono hle, h3⟩
  one h u hu := by
    obtain ⟨v2, rfl, h0, h1, h2, h3⟩ := h
    obtain ⟨_, _, _, rfl, _⟩ := h2
    simp at hu
    rcases hu with rfl | rfl | rfl | rfl <;> rfl
@[simp] theorem Ty_trommellaw21_Op_n : Ty_trommellaw21_Op.n = 4 := rfl
def bulk_trommellaw21_Op (a : D_trommellaw21_Op) : Nat := (fun _ => 1) a.kind + (fun _ => 1) a.which + (fun l => bulkL (fun _ => 1) l + 1) a.items + (fun _ => 1) a.n + 1
theorem opens_trommellaw21_Op : Opens Try.prog Ty_trommellaw21_Op bulk_trommellaw21_Op 44 := by
  refine ⟨by kernel_rfl, fun {H enc W fuel cs x} h hb => ?_⟩
  obtain ⟨xs, n, -, rfl, hl, hlen, hf⟩ := DataW.trod_struct (fs := #[Go.Field.mk "Kind" 3 0 Bool.false "" "" 0, Go.Field.mk "Which" 3 1 Bool.false "" "" 8, Go.Field.mk "Items" 23 2 Bool.false "" "" 16, Go.Field.mk "N" 3 3 Bool.false "" "" 40]) (by kernel_rfl) h
  rw [show Try.prog.cellsOf 44 = 4 by kernel_rfl] at hl
  match cs, hl, xs, hlen with
  | [c0, c1, c2, c3], _, [x0, x1, x2, x3], _ =>
  simp only [Rows.uptoBulk, List.map_cons, List.map_nil, Rows.uptoBulkAll] at hb ⊢
  have f0 := hf 0 _ rfl
  have f1 := hf 1 _ rfl
  have f2 := hf 2 _ rfl
  have f3 := hf 3 _ rfl
  obtain ⟨a0, r0, b0⟩ := (opens_int (by kernel_rfl) (by kernel_rfl)).h (cs := [c0]) (x := x0) (by exact f0) (by omega)
  obtain ⟨a1, r1, b1⟩ := (opens_int (by kernel_rfl) (by kernel_rfl)).h (cs := [c1]) (x := x1) (by exact f1) (by omega)
  obtain ⟨a2, r2, b2⟩ := (opens_slice (e := 3) (opens_int (by kernel_rfl) (by kernel_rfl)) (by kernel_rfl) (by kernel_rfl) (by decide)).h (cs := [c2]) (x := x2) (by exact f2) (by omega)
  obtain ⟨a3, r3, b3⟩ := (opens_int (by kernel_rfl) (by kernel_rfl)).h (cs := [c3]) (x := x3) (by exact f3) (by omega)
  obtain ⟨e0, g0⟩ := r0; cases e0
  obtain ⟨e1, g1⟩ := r1; cases e1
  obtain ⟨y2, e2, g2⟩ := r2; cases e2
  obtain ⟨e3, g3⟩ := r3; cases e3
  exact ⟨⟨a0, a1, a2, a3⟩, ⟨_, rfl, g0, g1, g2, g3⟩, by simp only [bulk_trommellaw21_Op]; omega⟩

/-- trommellaw21.item -/
structure D_trommellaw21_item where
  name : ByteArray
  n : Int
def Ty_trommellaw21_item : Ty D_trommellaw21_item where
  n := 2
  rep I us a := us = [.string a.name, .int .i64 a.n] ∧ a.name.size ≤ 140737488355328 ∧ (-9223372036854775808 ≤ a.n ∧ a.n ≤ 9223372036854775807)
  len h := by obtain ⟨rfl, h0, h1⟩ := h; rfl
  mono hle h := by obtain ⟨rfl, h0, h1⟩ := h; exact ⟨rfl, h0, h1⟩
  one h u hu := by
    obtain ⟨rfl, h0, h1⟩ := h
    simp at hu
    rcases hu with rfl | rfl <;> rfl
@[simp] theorem Ty_trommellaw21_item_n : Ty_trommellaw21_item.n = 2 := rfl
theorem flat_trommellaw21_item : Flat Ty_trommellaw21_item := fun _ _ _ _ h => h
def bulk_trommellaw21_item (a : D_trommellaw21_item) : Nat := (fun s => s.size + 1) a.name + (fun _ => 1) a.n + 1
theorem opens_trommellaw21_item : Opens Try.prog Ty_trommellaw21_item bulk_trommellaw21_item 42 := by
  refine ⟨by kernel_rfl, fun {H enc W fuel cs x} h hb => ?_⟩
  obtain ⟨xs, n, -, rfl, hl, hlen, hf⟩ := DataW.trod_struct (fs := #[Go.Field.mk "Name" 9 0 Bool.false "" "" 0, Go.Field.mk "N" 3 1 Bool.false "" "" 16]) (by kernel_rfl) h
  rw [show Try.prog.cellsOf 42 = 2 by kernel_rfl] at hl
  match cs, hl, xs, hlen with
  | [c0, c1], _, [x0, x1], _ =>
  simp only [Rows.uptoBulk, List.map_cons, List.map_nil, Rows.uptoBulkAll] at hb ⊢
  have f0 := hf 0 _ rfl
  have f1 := hf 1 _ rfl
  obtain ⟨a0, r0, b0⟩ := (opens_str (by kernel_rfl) (by kernel_rfl)).h (cs := [c0]) (x := x0) (by exact f0) (by omega)
  obtain ⟨a1, r1, b1⟩ := (opens_int (by kernel_rfl) (by kernel_rfl)).h (cs := [c1]) (x := x1) (by exact f1) (by omega)
  obtain ⟨e0, g0⟩ := r0; cases e0
  obtain ⟨e1, g1⟩ := r1; cases e1
  exact ⟨⟨a0, a1⟩, ⟨rfl, g0, g1⟩, by simp only [bulk_trommellaw21_item]; omega⟩

end Go.Proofs.Ytahipnlffgbjgaa
