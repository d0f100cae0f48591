/- Contracts of the queue's functions that only read; and of the reference's. -/
import Derived.Test.YtahipnlffgbjgaaQ1
namespace Go.Proofs.Ytahipnlffgbjgaa
open Go L
set_option linter.unusedVariables false

theorem s_All_int (base : Nat) (S : List Nat) (g : Nat) (v : Value) (most : Int) (l : List Int) (w : World) (hq : IsQ Ty.int T_queue_Queue_int T_int base w S g v most l) :
    Calls Try.prog i_queue_Queue_int_All #[.pointer (some ⟨g, 0, none⟩)] w (callR (fun r w' => Mod [] w w' ∧ Own Ty.int w.heap.size w' (g :: S) T_int r l) noP) := by
  have h16 := hq.most2
  have hf := hq.fits
  have hr := hq.own.read (fun k hk => hq.apart k hk) (by omega)
  refine c_queue_Queue_int_All ?_
  unfold n_queue_Queue_int_All
  refine rNil (rFA (rLoad (hq.blk.cell 2) ?_))
  have hC := s_Clone_int (g :: S) _ _ w hr (by omega)
  refine rCall hC ?_
  rintro r w1 h
  exact h

theorem s_Peek_int (base : Nat) (S : List Nat) (g : Nat) (v : Value) (most : Int) (l : List Int) (w : World) (hq : IsQ Ty.int T_queue_Queue_int T_int base w S g v most l) :
    Calls Try.prog i_queue_Queue_int_Peek #[.pointer (some ⟨g, 0, none⟩)] w (callR (fun r w' => r = .tuple #[.int .i64 (l.headD 0), .bool (decide (l ≠ []))] ∧ Mod [] w w') noP) := by
  have h16 := hq.most2
  have hf := hq.fits
  have hr := hq.own.read (fun k hk => hq.apart k hk) (by omega)
  refine c_queue_Queue_int_Peek ?_
  unfold n_queue_Queue_int_Peek
  refine rNil (rFA (rFA (rLoad (hq.blk.cell 0) (rEql (rCond (fun h => ?_) fun h => ?_)))))
  · have : l = [] := List.eq_nil_of_length_eq_zero (by omega)
    subst this; exact ⟨rfl, Mod.refl _ _⟩
  · obtain ⟨A, n, c, rfl, hn, hc, hc', hn', hh⟩ := hr
    obtain ⟨b, o, rfl, hh'⟩ := hh (by omega)
    obtain ⟨us, hu, hr⟩ := hh' 0 (by omega)
    obtain ⟨rfl, _⟩ := hr
    have hcell := hide_cell (hu 0 (by simp))
    refine rNil (rFA (rLoad (hq.blk.cell 2) (rIA (by omega) (by omega) (rLoad (by simpa using hcell) ?_))))
    refine ⟨?_, Mod.refl _ _⟩
    cases l with
    | nil => simp at h
    | cons x l => simp

theorem s_Peek_string (base : Nat) (S : List Nat) (g : Nat) (v : Value) (most : Int) (l : List ByteArray) (w : World) (hq : IsQ Ty.str T_queue_Queue_string T_string base w S g v most l) :
    Calls Try.prog i_queue_Queue_string_Peek #[.pointer (some ⟨g, 0, none⟩)] w (callR (fun r w' => r = .tuple #[.string (l.headD ⟨#[]⟩), .bool (decide (l ≠ []))] ∧ Mod [] w w') noP) := by
  have h16 := hq.most2
  have hf := hq.fits
  have hr := hq.own.read (fun k hk => hq.apart k hk) (by omega)
  refine c_queue_Queue_string_Peek ?_
  unfold n_queue_Queue_string_Peek
  refine rNil (rFA (rFA (rLoad (hq.blk.cell 0) (rEql (rCond (fun h => ?_) fun h => ?_)))))
  · have : l = [] := List.eq_nil_of_length_eq_zero (by omega)
    subst this; exact ⟨rfl, Mod.refl _ _⟩
  · obtain ⟨A, n, c, rfl, hn, hc, hc', hn', hh⟩ := hr
    obtain ⟨b, o, rfl, hh'⟩ := hh (by omega)
    obtain ⟨us, hu, hr⟩ := hh' 0 (by omega)
    obtain ⟨rfl, _⟩ := hr
    have hcell := hide_cell (hu 0 (by simp))
    refine rNil (rFA (rLoad (hq.blk.cell 2) (rIA (by omega) (by omega) (rLoad (by simpa using hcell) ?_))))
    refine ⟨?_, Mod.refl _ _⟩
    cases l with
    | nil => simp at h
    | cons x l => simp

end Go.Proofs.Ytahipnlffgbjgaa
