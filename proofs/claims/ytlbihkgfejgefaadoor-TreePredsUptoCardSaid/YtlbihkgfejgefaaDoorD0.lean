/- Printed by structs.py (a program of ours): struct types as Lean structures, and how they are read. -/
import Derived.Test.YtlbihkgfejgefaaDoorR0
import Derived.Test.YtlbihkgfejgefaaDoorN0
namespace Go.Proofs.YtlbihkgfejgefaaDoor
open Go L Go.ChangeShapes Go.WideShapes Go.ChangeAt Go.RowKit
set_option linter.unusedVariables false
set_option maxRecDepth 100000

/-- api.Pred -/
structure D_api_Pred where
  kind : Int
  attr : ByteArray
  ints : List Int
  words : List ByteArray
  lo : Int
  hi : Int
def Ty_api_Pred : Ty D_api_Pred where
  n := 6
  rep I us a := ∃ v2 v3 : Value, us = [.int .i64 a.kind, .string a.attr, v2, v3, .int .i64 a.lo, .int .i64 a.hi] ∧ (-9223372036854775808 ≤ a.kind ∧ a.kind ≤ 9223372036854775807) ∧ a.attr.size ≤ 140737488355328 ∧ RSl Ty.int I v2 a.ints ∧ RSl Ty.str I v3 a.words ∧ (-9223372036854775808 ≤ a.lo ∧ a.lo ≤ 9223372036854775807) ∧ (-9223372036854775808 ≤ a.hi ∧ a.hi ≤ 9223372036854775807)
  len h := by obtain ⟨v2, v3, rfl, h0, h1, h2, h3, h4, h5⟩ := h; rfl
  mono hle h := by obtain ⟨v2, v3, rfl, h0, h1, h2, h3, h4, h5⟩ := h; exact ⟨v2, v3, rfl, h0, h1, h2.mono hle, h3.mono hle, h4, h5⟩
  one h u hu := by
    obtain ⟨v2, v3, rfl, h0, h1, h2, h3, h4, h5⟩ := h
    obtain ⟨_, _, _, rfl, _⟩ := h2
    obtain ⟨_, _, _, rfl, _⟩ := h3
    simp at hu
    rcases hu with rfl | rfl | rfl | rfl | rfl | rfl <;> rfl
@[simp] theorem Ty_api_Pred_n : Ty_api_Pred.n = 6 := rfl
def bulk_api_Pred (a : D_api_Pred) : Nat := (fun _ => 1) a.kind + (fun s => s.size + 1) a.attr + (fun l => bulkL (fun _ => 1) l + 1) a.ints + (fun l => bulkL (fun s => s.size + 1) l + 1) a.words + (fun _ => 1) a.lo + (fun _ => 1) a.hi + 1
theorem opens_api_Pred : Opens Tryd.prog Ty_api_Pred bulk_api_Pred 25 := by
  refine ⟨by kernel_rfl, fun {H enc W fuel cs x} h hb => ?_⟩
  obtain ⟨xs, n, -, rfl, hl, hlen, hf⟩ := DataW.trod_struct (fs := #[Go.Field.mk "Kind" 3 0 Bool.false "" "" 0, Go.Field.mk "Attr" 9 1 Bool.false "" "" 8, Go.Field.mk "Ints" 22 2 Bool.false "" "" 24, Go.Field.mk "Words" 23 3 Bool.false "" "" 48, Go.Field.mk "Lo" 3 4 Bool.false "" "" 72, Go.Field.mk "Hi" 3 5 Bool.false "" "" 80]) (by kernel_rfl) h
  rw [show Tryd.prog.cellsOf 25 = 6 by kernel_rfl] at hl
  match cs, hl, xs, hlen with
  | [c0, c1, c2, c3, c4, c5], _, [x0, x1, x2, x3, x4, x5], _ =>
  simp only [Rows.uptoBulk, List.map_cons, List.map_nil, Rows.uptoBulkAll] at hb ⊢
  have f0 := hf 0 _ rfl
  have f1 := hf 1 _ rfl
  have f2 := hf 2 _ rfl
  have f3 := hf 3 _ rfl
  have f4 := hf 4 _ rfl
  have f5 := hf 5 _ rfl
  obtain ⟨a0, r0, b0⟩ := (opens_int (by kernel_rfl) (by kernel_rfl)).h (cs := [c0]) (x := x0) (by exact f0) (by omega)
  obtain ⟨a1, r1, b1⟩ := (opens_str (by kernel_rfl) (by kernel_rfl)).h (cs := [c1]) (x := x1) (by exact f1) (by omega)
  obtain ⟨a2, r2, b2⟩ := (opens_slice (e := 3) (opens_int (by kernel_rfl) (by kernel_rfl)) (by kernel_rfl) (by kernel_rfl) (by decide)).h (cs := [c2]) (x := x2) (by exact f2) (by omega)
  obtain ⟨a3, r3, b3⟩ := (opens_slice (e := 9) (opens_str (by kernel_rfl) (by kernel_rfl)) (by kernel_rfl) (by kernel_rfl) (by decide)).h (cs := [c3]) (x := x3) (by exact f3) (by omega)
  obtain ⟨a4, r4, b4⟩ := (opens_int (by kernel_rfl) (by kernel_rfl)).h (cs := [c4]) (x := x4) (by exact f4) (by omega)
  obtain ⟨a5, r5, b5⟩ := (opens_int (by kernel_rfl) (by kernel_rfl)).h (cs := [c5]) (x := x5) (by exact f5) (by omega)
  obtain ⟨e0, g0⟩ := r0; cases e0
  obtain ⟨e1, g1⟩ := r1; cases e1
  obtain ⟨y2, e2, g2⟩ := r2; cases e2
  obtain ⟨y3, e3, g3⟩ := r3; cases e3
  obtain ⟨e4, g4⟩ := r4; cases e4
  obtain ⟨e5, g5⟩ := r5; cases e5
  exact ⟨⟨a0, a1, a2, a3, a4, a5⟩, ⟨_, _, rfl, g0, g1, g2, g3, g4, g5⟩, by simp only [bulk_api_Pred]; omega⟩

end Go.Proofs.YtlbihkgfejgefaaDoor
