/- 'fixed' of the queue's laws. -/
import Derived.Test.YtahipnlffgbjgaaQ2
namespace Go.Proofs.Ytahipnlffgbjgaa
open Go L
set_option linter.unusedVariables false

/-- SameInts over two readings -/
theorem s_SameInts (S : List Nat) (va vb : Value) (la lb : List Int) (w : World) (ha : RSl Ty.int (hide w S) va la) (hb : RSl Ty.int (hide w S) vb lb) :
    Calls Try.prog i_trommelmem_SameInts #[va, vb] w (callR (fun v w' => v = .bool (decide (la = lb)) ∧ Same w w') noP) := by
  obtain ⟨A, n, c, rfl, hn, hc, hc', hn', ha⟩ := ha
  obtain ⟨B, m, d, rfl, hm, hd, hd', hm', hb⟩ := hb
  refine c_trommelmem_SameInts ?_
  unfold n_trommelmem_SameInts
  refine rLen (rLen (rNeq (rCond (fun h => ?_) fun h => ?_)))
  · refine ⟨?_, .refl w⟩
    rw [decide_eq_false]; intro e; subst e; omega
  have hnm : n = m := by omega
  refine rLen ?_
  refine rLoop1 (fun x w1 => ∃ k : Nat, x = .int .i64 k ∧ k ≤ n ∧ la.take k = lb.take k ∧ Same w w1) (fun x _ => match x with | .int _ k => n - k.toNat | _ => 0) ⟨0, rfl, Nat.zero_le _, rfl, .refl w⟩ ?_
  rintro f w1 ag hag ⟨k, hk, hkn, ht, hs⟩
  simp only [hk] at hag ⊢
  refine rLss (rCond (fun hlt => ?_) fun hge => ?_)
  · have hkn : k < n := by omega
    obtain ⟨b, o, rfl, ha'⟩ := ha (by omega)
    obtain ⟨b', o', rfl, hb'⟩ := hb (by omega)
    obtain ⟨us, hu, rfl, _⟩ := ha' k (by omega)
    obtain ⟨us', hu', rfl, _⟩ := hb' k (by omega)
    have h1 := hide_cell (hu 0 (by simp))
    have h2 := hide_cell (hu' 0 (by simp))
    refine rIA (by omega) (by omega) (rLD (by rw [hs.drew.cell]; simpa using h1) (rIA (by omega) (by omega) (rLD (by rw [hs.drew.cell]; simpa using h2) (rD rfl (rNeq (rCond (fun h => ?_) fun h => ?_))))))
    · refine ⟨?_, hs.drew⟩
      rw [decide_eq_false]; rintro rfl; exact h rfl
    · refine rAdd (by omega) (by omega) (hag _ _ ⟨k + 1, by simp, by omega, ?_, hs.drew⟩ (by dsimp only; omega))
      rw [List.take_succ_eq_append_getElem (by omega), List.take_succ_eq_append_getElem (by omega), ht]
      simp at h; rw [h]
  · refine ⟨?_, hs⟩
    have : k = n := by omega
    subst this
    rw [List.take_of_length_le (by omega), List.take_of_length_le (by omega)] at ht
    rw [decide_eq_true ht]

theorem s_fixed (w : World) : Calls Try.prog i_trommellaw21_fixed #[] w (callR (fun r w' => r = .bool true ∧ Mod [] w w') noP) := by
  refine c_trommellaw21_fixed ?_
  unfold n_trommellaw21_fixed
  have hC := s_New_int [] 2 w (by simp)
  refine rCall hC ?_; clear hC
  rintro _ w1 ⟨rfl, hm1, hq1⟩
  have hC := s_New_string [] 1 w1 (by simp)
  refine rCall hC ?_; clear hC
  rintro _ w2 ⟨rfl, hm2, hp2⟩
  have hq2 := hq1.mod hm2 (by simp) (by simp) (by simp)
  have hlt1 := hq1.blk.lt
  refine rEqlPN (rG1 (rG1 (rEqlPN (rPickF ?_))))
  refine rG1 (rG1 (rBuildS [.int .i64 1, .int .i64 2, .int .i64 3] (by decide) (by kernel_rfl) ?_))
  intro w3 hm3 hb3 hs3
  have hq3 := hq2.mod hm3 (by simp) (by simp) (by simp)
  have hp3 := hp2.mod hm3 (by simp) (by simp) (by simp)
  have hlt2 := hp2.blk.lt
  have hx : RSl Ty.int (hide w3 (ob (.slice none 0 0) ++ w.heap.size :: [])) (.slice (some ⟨w2.heap.size, 0, none⟩) 3 3) [1, 2, 3] :=
    RSl.lit (l := [1, 2, 3]) hb3 (by simp [ob, Value.ownBlock]; omega) (by simp) (by simp)
  have hC := s_Put_int w.heap.size [] w.heap.size _ _ 2 [] [1, 2, 3] w3 hq3 hx (by simp) (by have := hq3.blk.lt; omega)
  refine rG1 (rCall hC ?_); clear hC
  rintro _ w4 ⟨v4, k, rfl, hk, hq4, hm4, hob4⟩
  obtain rfl : k = 2 := by simp at hk; omega
  have hg4 : ∀ j ∈ ob v4, w3.heap.size ≤ j := by
    intro j hj
    rcases hob4 j hj with h | h
    · simp [ob, Value.ownBlock] at h
    · exact h
  have hlt3 := hm3.size
  have hp4 := hp3.modF flat_str hm4 (by simp [ob, Value.ownBlock]; omega) (by simp [ob, Value.ownBlock])
  have hsz4 := hm4.size
  refine rG1 (rNeqF rfl (rPickF (rG1 (rG1 (rNil (rG1 (rFA (rG1 ?_))))))))
  have hC := s_Room w.heap.size 2 2 [v4] T_queue_Queue_int w4 hq4.blk (by omega) (by omega) (by omega)
  refine rCall hC ?_; clear hC
  rintro _ w5 ⟨rfl, hm5⟩
  have hq5 := hq4.modF flat_int hm5 (by simp) (by simp)
  have hp5 := hp4.modF flat_str hm5 (by simp) (by simp)
  refine rG1 (rNeqF rfl (rPickF (rG1 (rG1 (rNil (rG1 (rFA (rG1 ?_))))))))
  have hC := s_Len w.heap.size 2 [.int .i64 2, v4] T_queue_Queue_int w5 hq5.blk
  refine rCall hC ?_; clear hC
  rintro _ w6 ⟨rfl, hm6⟩
  have hq6 := hq5.modF flat_int hm6 (by simp) (by simp)
  have hp6 := hp5.modF flat_str hm6 (by simp) (by simp)
  refine rG1 (rNeqF rfl (rPickF (rG1 (rG1 (rBuildS [.string (ByteArray.mk #[120])] (by decide) (by kernel_rfl) ?_)))))
  intro w7 hm7 hb7 hs7
  have hq7 := hq6.modF flat_int hm7 (by simp) (by simp)
  have hp7 := hp6.modF flat_str hm7 (by simp) (by simp)
  have hsz6 := hm5.size
  have hsz7 := hm6.size
  have hlp := hp6.blk.lt
  have hx : RSl Ty.str (hide w7 (ob (.slice none 0 0) ++ w1.heap.size :: [])) (.slice (some ⟨w6.heap.size, 0, none⟩) 1 1) [ByteArray.mk #[120]] :=
    RSl.litS (l := [ByteArray.mk #[120]]) hb7 (by simp [ob, Value.ownBlock]; omega) (by simp) (by intro x hx; rcases List.mem_singleton.1 hx with rfl; exact (by decide : (1 : Nat) ≤ 140737488355328))
  have hC := s_Put_string w1.heap.size [] w1.heap.size _ _ 1 [] [ByteArray.mk #[120]] w7 hp7 hx (by simp) (by have := hp7.blk.lt; omega)
  refine rG1 (rCall hC ?_); clear hC
  rintro _ w8 ⟨v8, k, rfl, hk, hp8, hm8, hob8⟩
  obtain rfl : k = 1 := by simp at hk; omega
  have hq8 := hq7.modF flat_int hm8 (by simp [ob, Value.ownBlock]; omega) (by
    intro j hj; have := hg4 j hj; simp [ob, Value.ownBlock]; omega)
  refine rG1 (rNeqF rfl (rPickF (rFalse ?_)))
  have hC := s_Peek_int _ _ _ _ _ _ w8 hq8
  refine rCall hC ?_; clear hC
  rintro _ w9 ⟨rfl, hm9⟩
  have hq9 := hq8.modF flat_int hm9 (by simp) (by simp)
  have hp9 := hp8.modF flat_str hm9 (by simp) (by simp)
  refine rEX0 (rEX1 ?_)
  have hC := s_Peek_string _ _ _ _ _ _ w9 hp9
  refine rCall hC ?_; clear hC
  rintro _ w10 ⟨rfl, hm10⟩
  have hq10 := hq9.modF flat_int hm10 (by simp) (by simp)
  refine rEX0 (rEX1 ?_)
  refine rG1 (rG1 (rEqlT rfl (rPickT (rG1 (rPickT (rG1 (rG1 (rEqlST rfl (rPickT (rG1 (rG1 ?_)))))))))))
  have hC := s_All_int _ _ _ _ _ _ w10 hq10
  refine rCall hC ?_; clear hC
  rintro r11 w11 ⟨hm11, hr11⟩
  have hq11 := hq10.modF flat_int hm11 (by simp) (by simp)
  refine rG1 (rBuildS [.int .i64 1, .int .i64 2] (by decide) (by kernel_rfl) ?_)
  intro w12 hm12 hb12 hs12
  have hr12 := (hr11.modF (S' := []) flat_int hm12 (by simp)).read (by simp) (by simp)
  have hq12 := hq11.modF flat_int hm12 (by simp) (by simp)
  have hC := s_SameInts [] _ _ _ [1, 2] w12 hr12 (RSl.lit (l := [1, 2]) hb12 (by simp) (by simp) (by simp))
  refine rG1 (rCall hC ?_); clear hC
  rintro _ w13 ⟨rfl, hs13⟩
  have hm13 : Mod [] w12 w13 := .of_same hs13
  have hq13 := hq12.modF flat_int hm13 (by simp) (by simp)
  simp only [List.nil_append, List.take_succ_cons, List.take_zero, decide_true]
  refine rPickT (rG1 (rG1 ?_))
  have hC := s_Take_int _ _ _ _ _ _ 5 w13 hq13 (by simp) (by have := hq13.blk.lt; omega)
  refine rCall hC ?_; clear hC
  rintro r14 w14 ⟨v14, k, hk, hr14, hq14, hm14, hob14, hd14⟩
  obtain rfl : k = 2 := by simp at hk; omega
  refine rG1 (rBuildS [.int .i64 1, .int .i64 2] (by decide) (by kernel_rfl) ?_)
  intro w15 hm15 hb15 hs15
  have hr15 := (hr14.modF (S' := []) flat_int hm15 (by simp)).read (by simp) (by simp)
  have hq15 := hq14.modF flat_int hm15 (by simp) (by simp)
  have hC := s_SameInts [] _ _ _ [1, 2] w15 hr15 (RSl.lit (l := [1, 2]) hb15 (by simp) (by simp) (by simp))
  refine rG1 (rCall hC ?_); clear hC
  rintro _ w16 ⟨rfl, hs16⟩
  have hm16 : Mod [] w15 w16 := .of_same hs16
  have hq16 := hq15.modF flat_int hm16 (by simp) (by simp)
  simp only [List.nil_append, List.take_succ_cons, List.take_zero, decide_true]
  refine rPickT (rG1 (rG1 (rNil (rG1 (rFA (rG1 ?_))))))
  have hC := s_Len w.heap.size _ [.int .i64 2, v14] T_queue_Queue_int w16 hq16.blk
  refine rCall hC ?_; clear hC
  rintro _ w17 ⟨rfl, hm17⟩
  refine rG1 (rEqlT rfl (rPickT ⟨rfl, ?_⟩))
  have ha : Mod [] w w7 := (((((hm1.trans hm2).trans hm3).trans_new hm4 (by simp [ob, Value.ownBlock])).trans hm5).trans hm6).trans hm7
  have hb : Mod [] w w13 := (((((ha.trans_new hm8 (by have := hm1.size; simp [ob, Value.ownBlock]; omega)).trans hm9).trans hm10).trans hm11).trans hm12).trans hm13
  exact (((hb.trans_new hm14 (by simp)).trans hm15).trans hm16).trans hm17

end Go.Proofs.Ytahipnlffgbjgaa
