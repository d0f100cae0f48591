/- Contracts of the queue's functions, over 'St'. -/
import Derived.Test.YtahipnlffgbjgaaL13
import Derived.Test.YtahipnlffgbjgaaN0
import Derived.Test.YtahipnlffgbjgaaN1
import Derived.Test.YtahipnlffgbjgaaD0
namespace Go.Proofs.Ytahipnlffgbjgaa
open Go L
set_option linter.unusedVariables false


/-- a queue at block g -/
def QueueH {α : Type} (T : Ty α) (TQ E g : Nat) (most : Int) (l : List α) : HP :=
  HP.ex fun v => HP.sep (Cells g [.int .i64 l.length, .int .i64 most, v] TQ) (HP.sep (OwnSl T E v l) (HP.pur (1 ≤ most ∧ most ≤ 16 ∧ (l.length : Int) ≤ most)))

section
variable {c : World} {I : CM} {F : Hp} {As : List HP} {w : World} {α : Type} {T : Ty α} {TQ E g : Nat} {most : Int} {l : List α}
theorem QueueH.open (hs : St c I F (QueueH T TQ E g most l :: As) w) : ∃ v, (1 ≤ most ∧ most ≤ 16 ∧ (l.length : Int) ≤ most) ∧ St c I F (Cells g [.int .i64 l.length, .int .i64 most, v] TQ :: OwnSl T E v l :: As) w := by
  obtain ⟨v, hs⟩ := hs.ex
  obtain ⟨h, hs⟩ := hs.sep.p1.sep.p1.pur
  exact ⟨v, h, hs.p1⟩
theorem QueueH.shut {v : Value} {n : Int} (hn : n = l.length) (h : 1 ≤ most ∧ most ≤ 16 ∧ (l.length : Int) ≤ most) (hs : St c I F (Cells g [.int .i64 n, .int .i64 most, v] TQ :: OwnSl T E v l :: As) w) : St c I F (QueueH T TQ E g most l :: As) w := by
  subst hn
  exact St.toEx v (St.join (St.p1 (St.join (St.p1 (St.toPur h hs.p1)))))
end

theorem s_Clone_int {c : World} {I : CM} {F : Hp} {As : List HP} {w : World} (hs : St c I F As w) (v : Value) (l : List Int) (hr : RS Ty.int (Rd I F) I v l) (hl : l.length ≤ 1099511627776) :
    Calls Try.prog i_slices_Clone_int_int #[v] w (callR (fun v' w' => St c I F (OwnSl Ty.int T_int v' l :: As) w') noP) := by
  have hr0 := hr
  obtain ⟨A, n, cp, rfl, hn, hc, hc', hn', hh⟩ := hr
  refine c_slices_Clone_int_int ?_
  unfold n_slices_Clone_int_int
  refine rEqlNil ?_
  cases A with
  | none =>
    refine rTrue ?_
    have h0 : n = 0 := by
      rcases Nat.eq_zero_or_pos n with h | h
      · exact h
      · obtain ⟨b, o, h1, _⟩ := hh (by omega); cases h1
    have : l = [] := List.eq_nil_of_length_eq_zero (by omega)
    subst this
    exact hs.ownNil _ _
  | some a =>
    refine rFalse (rBuildS0S hs Ty.int ?_)
    intro v w hs
    refine rAppS hs hr0 rfl (by rfl) (by decide) (by simp; omega) (by decide) ?_
    intro v' w hs
    exact hs
theorem s_Clone_string {c : World} {I : CM} {F : Hp} {As : List HP} {w : World} (hs : St c I F As w) (v : Value) (l : List ByteArray) (hr : RS Ty.str (Rd I F) I v l) (hl : l.length ≤ 1099511627776) :
    Calls Try.prog i_slices_Clone_string_string #[v] w (callR (fun v' w' => St c I F (OwnSl Ty.str T_string v' l :: As) w') noP) := by
  have hr0 := hr
  obtain ⟨A, n, cp, rfl, hn, hc, hc', hn', hh⟩ := hr
  refine c_slices_Clone_string_string ?_
  unfold n_slices_Clone_string_string
  refine rEqlNil ?_
  cases A with
  | none =>
    refine rTrue ?_
    have h0 : n = 0 := by
      rcases Nat.eq_zero_or_pos n with h | h
      · exact h
      · obtain ⟨b, o, h1, _⟩ := hh (by omega); cases h1
    have : l = [] := List.eq_nil_of_length_eq_zero (by omega)
    subst this
    exact hs.ownNil _ _
  | some a =>
    refine rFalse (rBuildS0S hs Ty.str ?_)
    intro v w hs
    refine rAppS hs hr0 rfl (by rfl) (by decide) (by simp; omega) (by decide) ?_
    intro v' w hs
    exact hs
theorem s_Clone_trommellaw21_item {c : World} {I : CM} {F : Hp} {As : List HP} {w : World} (hs : St c I F As w) (v : Value) (l : List D_trommellaw21_item) (hr : RS Ty_trommellaw21_item (Rd I F) I v l) (hl : l.length ≤ 1099511627776) :
    Calls Try.prog i_slices_Clone_trommellaw21_item_trommellaw21_item #[v] w (callR (fun v' w' => St c I F (OwnSl Ty_trommellaw21_item T_trommellaw21_item v' l :: As) w') noP) := by
  have hr0 := hr
  obtain ⟨A, n, cp, rfl, hn, hc, hc', hn', hh⟩ := hr
  refine c_slices_Clone_trommellaw21_item_trommellaw21_item ?_
  unfold n_slices_Clone_trommellaw21_item_trommellaw21_item
  refine rEqlNil ?_
  cases A with
  | none =>
    refine rTrue ?_
    have h0 : n = 0 := by
      rcases Nat.eq_zero_or_pos n with h | h
      · exact h
      · obtain ⟨b, o, h1, _⟩ := hh (by omega); cases h1
    have : l = [] := List.eq_nil_of_length_eq_zero (by omega)
    subst this
    exact hs.ownNil _ _
  | some a =>
    refine rFalse (rBuildS0S hs Ty_trommellaw21_item ?_)
    intro v w hs
    refine rAppS hs hr0 rfl (by rfl) (by decide) (by simp; omega) (by decide) ?_
    intro v' w hs
    exact hs

section
variable {c : World} {I : CM} {F : Hp} {As : List HP} {w : World}

theorem s_Room (g : Nat) (i m : Int) (rest : List Value) (E : Nat) (hs : St c I F (Cells g (.int .i64 i :: .int .i64 m :: rest) E :: As) w) (h1 : 0 ≤ i) (h2 : i ≤ m) (h3 : m ≤ 16) :
    Calls Try.prog i_queue_Fill_Room #[.pointer (some ⟨g, 0, none⟩)] w (callR (fun r w' => r = .int .i64 (m - i) ∧ St c I F (Cells g (.int .i64 i :: .int .i64 m :: rest) E :: As) w') noP) := by
  refine c_queue_Fill_Room ?_
  unfold n_queue_Fill_Room
  have hs := hs.drew
  refine rD rfl (rNil (rFA (rLDS hs rfl (rD rfl (rNil (rFA (rLDS hs rfl (rD rfl (rSub (by omega) (by omega) ?_)))))))))
  exact ⟨rfl, hs⟩

theorem s_Len (g : Nat) (i : Int) (rest : List Value) (E : Nat) (hs : St c I F (Cells g (.int .i64 i :: rest) E :: As) w) :
    Calls Try.prog i_queue_Fill_Len #[.pointer (some ⟨g, 0, none⟩)] w (callR (fun r w' => r = .int .i64 i ∧ St c I F (Cells g (.int .i64 i :: rest) E :: As) w') noP) := by
  refine c_queue_Fill_Len ?_
  unfold n_queue_Fill_Len
  exact rNil (rFA (rLdS hs rfl ⟨rfl, hs⟩))

theorem q_Room {α : Type} (T : Ty α) (TQ E g : Nat) (most : Int) (l : List α) (hs : St c I F (QueueH T TQ E g most l :: As) w) :
    Calls Try.prog i_queue_Fill_Room #[.pointer (some ⟨g, 0, none⟩)] w (callR (fun r w' => r = .int .i64 (most - l.length) ∧ (1 ≤ most ∧ most ≤ 16 ∧ (l.length : Int) ≤ most) ∧ St c I F (QueueH T TQ E g most l :: As) w') noP) := by
  obtain ⟨v, h, hs⟩ := QueueH.open hs
  refine Calls.mono (s_Room g _ most [v] TQ hs (by omega) h.2.2 h.2.1) fun e w' he => ?_
  cases e with
  | returned r => exact ⟨he.1, h, QueueH.shut rfl h he.2⟩
  | panicked c => exact he.elim
  | outgrown => exact he.elim
theorem q_Len {α : Type} (T : Ty α) (TQ E g : Nat) (most : Int) (l : List α) (hs : St c I F (QueueH T TQ E g most l :: As) w) :
    Calls Try.prog i_queue_Fill_Len #[.pointer (some ⟨g, 0, none⟩)] w (callR (fun r w' => r = .int .i64 l.length ∧ (1 ≤ most ∧ most ≤ 16 ∧ (l.length : Int) ≤ most) ∧ St c I F (QueueH T TQ E g most l :: As) w') noP) := by
  obtain ⟨v, h, hs⟩ := QueueH.open hs
  refine Calls.mono (s_Len g _ [.int .i64 most, v] TQ hs) fun e w' he => ?_
  cases e with
  | returned r => exact ⟨he.1, h, QueueH.shut rfl h he.2⟩
  | panicked c => exact he.elim
  | outgrown => exact he.elim
end

section
variable {c : World} {I : CM} {F : Hp} {As : List HP} {w : World}
theorem s_New_int (hs : St c I F As w) (n : Int) :
    Calls Try.prog i_queue_New_int #[.int .i64 n] w (callR (fun r w' => ∃ g, r = .pointer (some ⟨g, 0, none⟩) ∧ St c I F (QueueH Ty.int T_queue_Queue_int T_int g (min (max n 1) 16) [] :: As) w') noP) := by
  refine c_queue_New_int ?_
  unfold n_queue_New_int
  refine rMax (rMin (rBuild [.int .i64 0, .int .i64 (min (max n 1) 16)] rfl (rBuild [.int .i64 0, .int .i64 (min (max n 1) 16), .slice none 0 0] rfl (rBoxS hs [.int .i64 0, .int .i64 (min (max n 1) 16), .slice none 0 0] rfl ?_))))
  intro g w hs
  exact ⟨g, rfl, QueueH.shut (n := 0) rfl (by simp; omega) (hs.ownNil Ty.int T_int).p1⟩

theorem s_Put_int (g : Nat) (x : Value) (most : Int) (l m : List Int) (hs : St c I F (QueueH Ty.int T_queue_Queue_int T_int g most l :: As) w) (hx : RS Ty.int (Rd I F) I x m) :
    Calls Try.prog i_queue_Queue_int_Put #[.pointer (some ⟨g, 0, none⟩), x] w (callR (fun r w' => ∃ k : Nat, r = .int .i64 k ∧ (k : Int) = min (m.length : Int) (most - l.length) ∧ (1 ≤ most ∧ most ≤ 16 ∧ (l.length : Int) ≤ most) ∧ St c I F (QueueH Ty.int T_queue_Queue_int T_int g most (l ++ m.take k) :: As) w') noP) := by
  obtain ⟨v, hq, hs⟩ := QueueH.open hs
  obtain ⟨A, n, cp, rfl, hn, hnc, hc, hn', _⟩ := id hx
  refine c_queue_Queue_int_Put ?_
  unfold n_queue_Queue_int_Put
  refine rLen (rNil (rFA ?_))
  have hC := s_Room g l.length most [v] T_queue_Queue_int hs (by omega) hq.2.2 hq.2.1
  refine rCall hC ?_; clear hC
  rintro _ w ⟨rfl, hs⟩
  refine rMin ?_
  obtain ⟨k, hk⟩ : ∃ k : Nat, (k : Int) = min (n : Int) (most - l.length) := ⟨(min (n : Int) (most - l.length)).toNat, by omega⟩
  rw [← hk]
  have hs := hs.drew
  refine rD rfl (rNil (rFA (rLDS hs rfl (rSL (l := 0) (m := k) (.inl ⟨rfl, rfl⟩) (.inr ⟨_, rfl⟩) (Nat.zero_le _) (by omega) ?_))))
  rw [slA_zero]
  refine rAppS hs.p1 (hx.take0 (m := k) (by omega)) rfl (by rfl) (by decide) (by simp; omega) (by decide) ?_
  intro v' w hs
  obtain ⟨A', c', rfl, _⟩ := hs.sl
  refine rD rfl (rNil (rFA (rStS hs.p1 (by simp) rfl ?_)))
  intro w hs
  refine rNil (rFA (rFA (rLdS hs rfl (rAdd (by omega) (by omega) (rNil (rFA (rFA (rStS hs (by simp) rfl ?_))))))))
  intro w hs
  have hlen : (l ++ m.take k).length = l.length + k := by simp; omega
  refine ⟨k, rfl, by omega, hq, QueueH.shut (n := l.length + k) (by rw [hlen]; simp) (by rw [hlen]; omega) hs⟩

theorem s_Take_int (g : Nat) (most : Int) (l : List Int) (n : Int) (hs : St c I F (QueueH Ty.int T_queue_Queue_int T_int g most l :: As) w) :
    Calls Try.prog i_queue_Queue_int_Take #[.pointer (some ⟨g, 0, none⟩), .int .i64 n] w (callR (fun r w' => ∃ k : Nat, (k : Int) = min (max n 0) (l.length : Int) ∧ (1 ≤ most ∧ most ≤ 16 ∧ (l.length : Int) ≤ most) ∧ St c I F (OwnSl Ty.int T_int r (l.take k) :: QueueH Ty.int T_queue_Queue_int T_int g most (l.drop k) :: As) w') noP) := by
  obtain ⟨v, hq, hs⟩ := QueueH.open hs
  obtain ⟨A, cp, rfl, hcp, hcp'⟩ := hs.p1.sl
  refine c_queue_Queue_int_Take ?_
  unfold n_queue_Queue_int_Take
  refine rMax (rNil (rFA (rFA (rLdS hs rfl (rMin ?_)))))
  obtain ⟨k, hk⟩ : ∃ k : Nat, (k : Int) = min (max n 0) (l.length : Int) := ⟨(min (max n 0) (l.length : Int)).toNat, by omega⟩
  rw [← hk]
  refine rNil (rFA (rLdS hs rfl (rSL (l := 0) (m := k) (.inl ⟨rfl, rfl⟩) (.inr ⟨_, rfl⟩) (Nat.zero_le _) (by omega) ?_)))
  rw [slA_zero]
  obtain ⟨F', hF, hr, hs, back⟩ := hs.p1.lendSl (by omega)
  have hC := s_Clone_int hs _ _ (hr.take0 (m := k) (by omega)) (by simp; omega)
  refine rCall hC ?_; clear hC
  rintro out w hs
  refine rNil (rFA (rLdS hs.p1 rfl (rSL (l := k) (m := l.length) (.inr ⟨_, rfl⟩) (.inl ⟨rfl, rfl⟩) (by omega) (by omega) ?_)))
  have hC := s_Clone_int hs _ _ (hr.drop0 (m := k) (by omega)) (by simp; omega)
  refine rCall hC ?_; clear hC
  rintro v2 w hs
  obtain ⟨-, hs⟩ := back _ _ _ (Gr.refl _ _) hs
  have hs := hs.drop
  obtain ⟨A2, c2, rfl, _⟩ := hs.sl
  refine rNil (rFA (rStS hs.p2 (by simp) rfl ?_))
  intro w hs
  refine rNil (rFA (rFA (rLdS hs rfl (rSub (by omega) (by omega) (rNil (rFA (rFA (rStS hs (by simp) rfl ?_))))))))
  intro w hs
  refine ⟨k, by first | exact hk | rfl, hq, St.p1 (QueueH.shut (n := l.length - k) (by simp; omega) (by simp; omega) hs)⟩

end
section
variable {c : World} {I : CM} {F : Hp} {As : List HP} {w : World}
theorem s_New_string (hs : St c I F As w) (n : Int) :
    Calls Try.prog i_queue_New_string #[.int .i64 n] w (callR (fun r w' => ∃ g, r = .pointer (some ⟨g, 0, none⟩) ∧ St c I F (QueueH Ty.str T_queue_Queue_string T_string g (min (max n 1) 16) [] :: As) w') noP) := by
  refine c_queue_New_string ?_
  unfold n_queue_New_string
  refine rMax (rMin (rBuild [.int .i64 0, .int .i64 (min (max n 1) 16)] rfl (rBuild [.int .i64 0, .int .i64 (min (max n 1) 16), .slice none 0 0] rfl (rBoxS hs [.int .i64 0, .int .i64 (min (max n 1) 16), .slice none 0 0] rfl ?_))))
  intro g w hs
  exact ⟨g, rfl, QueueH.shut (n := 0) rfl (by simp; omega) (hs.ownNil Ty.str T_string).p1⟩

theorem s_Put_string (g : Nat) (x : Value) (most : Int) (l m : List ByteArray) (hs : St c I F (QueueH Ty.str T_queue_Queue_string T_string g most l :: As) w) (hx : RS Ty.str (Rd I F) I x m) :
    Calls Try.prog i_queue_Queue_string_Put #[.pointer (some ⟨g, 0, none⟩), x] w (callR (fun r w' => ∃ k : Nat, r = .int .i64 k ∧ (k : Int) = min (m.length : Int) (most - l.length) ∧ (1 ≤ most ∧ most ≤ 16 ∧ (l.length : Int) ≤ most) ∧ St c I F (QueueH Ty.str T_queue_Queue_string T_string g most (l ++ m.take k) :: As) w') noP) := by
  obtain ⟨v, hq, hs⟩ := QueueH.open hs
  obtain ⟨A, n, cp, rfl, hn, hnc, hc, hn', _⟩ := id hx
  refine c_queue_Queue_string_Put ?_
  unfold n_queue_Queue_string_Put
  refine rLen (rNil (rFA ?_))
  have hC := s_Room g l.length most [v] T_queue_Queue_string hs (by omega) hq.2.2 hq.2.1
  refine rCall hC ?_; clear hC
  rintro _ w ⟨rfl, hs⟩
  refine rMin ?_
  obtain ⟨k, hk⟩ : ∃ k : Nat, (k : Int) = min (n : Int) (most - l.length) := ⟨(min (n : Int) (most - l.length)).toNat, by omega⟩
  rw [← hk]
  have hs := hs.drew
  refine rD rfl (rNil (rFA (rLDS hs rfl (rSL (l := 0) (m := k) (.inl ⟨rfl, rfl⟩) (.inr ⟨_, rfl⟩) (Nat.zero_le _) (by omega) ?_))))
  rw [slA_zero]
  refine rAppS hs.p1 (hx.take0 (m := k) (by omega)) rfl (by rfl) (by decide) (by simp; omega) (by decide) ?_
  intro v' w hs
  obtain ⟨A', c', rfl, _⟩ := hs.sl
  refine rD rfl (rNil (rFA (rStS hs.p1 (by simp) rfl ?_)))
  intro w hs
  refine rNil (rFA (rFA (rLdS hs rfl (rAdd (by omega) (by omega) (rNil (rFA (rFA (rStS hs (by simp) rfl ?_))))))))
  intro w hs
  have hlen : (l ++ m.take k).length = l.length + k := by simp; omega
  refine ⟨k, rfl, by omega, hq, QueueH.shut (n := l.length + k) (by rw [hlen]; simp) (by rw [hlen]; omega) hs⟩

theorem s_Take_string (g : Nat) (most : Int) (l : List ByteArray) (n : Int) (hs : St c I F (QueueH Ty.str T_queue_Queue_string T_string g most l :: As) w) :
    Calls Try.prog i_queue_Queue_string_Take #[.pointer (some ⟨g, 0, none⟩), .int .i64 n] w (callR (fun r w' => ∃ k : Nat, (k : Int) = min (max n 0) (l.length : Int) ∧ (1 ≤ most ∧ most ≤ 16 ∧ (l.length : Int) ≤ most) ∧ St c I F (OwnSl Ty.str T_string r (l.take k) :: QueueH Ty.str T_queue_Queue_string T_string g most (l.drop k) :: As) w') noP) := by
  obtain ⟨v, hq, hs⟩ := QueueH.open hs
  obtain ⟨A, cp, rfl, hcp, hcp'⟩ := hs.p1.sl
  refine c_queue_Queue_string_Take ?_
  unfold n_queue_Queue_string_Take
  refine rMax (rNil (rFA (rFA (rLdS hs rfl (rMin ?_)))))
  obtain ⟨k, hk⟩ : ∃ k : Nat, (k : Int) = min (max n 0) (l.length : Int) := ⟨(min (max n 0) (l.length : Int)).toNat, by omega⟩
  rw [← hk]
  refine rNil (rFA (rLdS hs rfl (rSL (l := 0) (m := k) (.inl ⟨rfl, rfl⟩) (.inr ⟨_, rfl⟩) (Nat.zero_le _) (by omega) ?_)))
  rw [slA_zero]
  obtain ⟨F', hF, hr, hs, back⟩ := hs.p1.lendSl (by omega)
  have hC := s_Clone_string hs _ _ (hr.take0 (m := k) (by omega)) (by simp; omega)
  refine rCall hC ?_; clear hC
  rintro out w hs
  refine rNil (rFA (rLdS hs.p1 rfl (rSL (l := k) (m := l.length) (.inr ⟨_, rfl⟩) (.inl ⟨rfl, rfl⟩) (by omega) (by omega) ?_)))
  have hC := s_Clone_string hs _ _ (hr.drop0 (m := k) (by omega)) (by simp; omega)
  refine rCall hC ?_; clear hC
  rintro v2 w hs
  obtain ⟨-, hs⟩ := back _ _ _ (Gr.refl _ _) hs
  have hs := hs.drop
  obtain ⟨A2, c2, rfl, _⟩ := hs.sl
  refine rNil (rFA (rStS hs.p2 (by simp) rfl ?_))
  intro w hs
  refine rNil (rFA (rFA (rLdS hs rfl (rSub (by omega) (by omega) (rNil (rFA (rFA (rStS hs (by simp) rfl ?_))))))))
  intro w hs
  refine ⟨k, by first | exact hk | rfl, hq, St.p1 (QueueH.shut (n := l.length - k) (by simp; omega) (by simp; omega) hs)⟩

end
section
variable {c : World} {I : CM} {F : Hp} {As : List HP} {w : World}
theorem s_New_trommellaw21_item (hs : St c I F As w) (n : Int) :
    Calls Try.prog i_queue_New_trommellaw21_item #[.int .i64 n] w (callR (fun r w' => ∃ g, r = .pointer (some ⟨g, 0, none⟩) ∧ St c I F (QueueH Ty_trommellaw21_item T_queue_Queue_trommellaw21_item T_trommellaw21_item g (min (max n 1) 16) [] :: As) w') noP) := by
  refine c_queue_New_trommellaw21_item ?_
  unfold n_queue_New_trommellaw21_item
  refine rMax (rMin (rBuild [.int .i64 0, .int .i64 (min (max n 1) 16)] rfl (rBuild [.int .i64 0, .int .i64 (min (max n 1) 16), .slice none 0 0] rfl (rBoxS hs [.int .i64 0, .int .i64 (min (max n 1) 16), .slice none 0 0] rfl ?_))))
  intro g w hs
  exact ⟨g, rfl, QueueH.shut (n := 0) rfl (by simp; omega) (hs.ownNil Ty_trommellaw21_item T_trommellaw21_item).p1⟩

theorem s_Put_trommellaw21_item (g : Nat) (x : Value) (most : Int) (l m : List D_trommellaw21_item) (hs : St c I F (QueueH Ty_trommellaw21_item T_queue_Queue_trommellaw21_item T_trommellaw21_item g most l :: As) w) (hx : RS Ty_trommellaw21_item (Rd I F) I x m) :
    Calls Try.prog i_queue_Queue_trommellaw21_item_Put #[.pointer (some ⟨g, 0, none⟩), x] w (callR (fun r w' => ∃ k : Nat, r = .int .i64 k ∧ (k : Int) = min (m.length : Int) (most - l.length) ∧ (1 ≤ most ∧ most ≤ 16 ∧ (l.length : Int) ≤ most) ∧ St c I F (QueueH Ty_trommellaw21_item T_queue_Queue_trommellaw21_item T_trommellaw21_item g most (l ++ m.take k) :: As) w') noP) := by
  obtain ⟨v, hq, hs⟩ := QueueH.open hs
  obtain ⟨A, n, cp, rfl, hn, hnc, hc, hn', _⟩ := id hx
  refine c_queue_Queue_trommellaw21_item_Put ?_
  unfold n_queue_Queue_trommellaw21_item_Put
  refine rLen (rNil (rFA ?_))
  have hC := s_Room g l.length most [v] T_queue_Queue_trommellaw21_item hs (by omega) hq.2.2 hq.2.1
  refine rCall hC ?_; clear hC
  rintro _ w ⟨rfl, hs⟩
  refine rMin ?_
  obtain ⟨k, hk⟩ : ∃ k : Nat, (k : Int) = min (n : Int) (most - l.length) := ⟨(min (n : Int) (most - l.length)).toNat, by omega⟩
  rw [← hk]
  have hs := hs.drew
  refine rD rfl (rNil (rFA (rLDS hs rfl (rSL (l := 0) (m := k) (.inl ⟨rfl, rfl⟩) (.inr ⟨_, rfl⟩) (Nat.zero_le _) (by omega) ?_))))
  rw [slA_zero]
  refine rAppS hs.p1 (hx.take0 (m := k) (by omega)) rfl (by rfl) (by decide) (by simp; omega) (by decide) ?_
  intro v' w hs
  obtain ⟨A', c', rfl, _⟩ := hs.sl
  refine rD rfl (rNil (rFA (rStS hs.p1 (by simp) rfl ?_)))
  intro w hs
  refine rNil (rFA (rFA (rLdS hs rfl (rAdd (by omega) (by omega) (rNil (rFA (rFA (rStS hs (by simp) rfl ?_))))))))
  intro w hs
  have hlen : (l ++ m.take k).length = l.length + k := by simp; omega
  refine ⟨k, rfl, by omega, hq, QueueH.shut (n := l.length + k) (by rw [hlen]; simp) (by rw [hlen]; omega) hs⟩

theorem s_Take_trommellaw21_item (g : Nat) (most : Int) (l : List D_trommellaw21_item) (n : Int) (hs : St c I F (QueueH Ty_trommellaw21_item T_queue_Queue_trommellaw21_item T_trommellaw21_item g most l :: As) w) :
    Calls Try.prog i_queue_Queue_trommellaw21_item_Take #[.pointer (some ⟨g, 0, none⟩), .int .i64 n] w (callR (fun r w' => ∃ k : Nat, (k : Int) = min (max n 0) (l.length : Int) ∧ (1 ≤ most ∧ most ≤ 16 ∧ (l.length : Int) ≤ most) ∧ St c I F (OwnSl Ty_trommellaw21_item T_trommellaw21_item r (l.take k) :: QueueH Ty_trommellaw21_item T_queue_Queue_trommellaw21_item T_trommellaw21_item g most (l.drop k) :: As) w') noP) := by
  obtain ⟨v, hq, hs⟩ := QueueH.open hs
  obtain ⟨A, cp, rfl, hcp, hcp'⟩ := hs.p1.sl
  refine c_queue_Queue_trommellaw21_item_Take ?_
  unfold n_queue_Queue_trommellaw21_item_Take
  refine rMax (rNil (rFA (rFA (rLdS hs rfl (rMin ?_)))))
  obtain ⟨k, hk⟩ : ∃ k : Nat, (k : Int) = min (max n 0) (l.length : Int) := ⟨(min (max n 0) (l.length : Int)).toNat, by omega⟩
  rw [← hk]
  refine rNil (rFA (rLdS hs rfl (rSL (l := 0) (m := k) (.inl ⟨rfl, rfl⟩) (.inr ⟨_, rfl⟩) (Nat.zero_le _) (by omega) ?_)))
  rw [slA_zero]
  obtain ⟨F', hF, hr, hs, back⟩ := hs.p1.lendSl (by omega)
  have hC := s_Clone_trommellaw21_item hs _ _ (hr.take0 (m := k) (by omega)) (by simp; omega)
  refine rCall hC ?_; clear hC
  rintro out w hs
  refine rNil (rFA (rLdS hs.p1 rfl (rSL (l := k) (m := l.length) (.inr ⟨_, rfl⟩) (.inl ⟨rfl, rfl⟩) (by omega) (by omega) ?_)))
  have hC := s_Clone_trommellaw21_item hs _ _ (hr.drop0 (m := k) (by omega)) (by simp; omega)
  refine rCall hC ?_; clear hC
  rintro v2 w hs
  obtain ⟨-, hs⟩ := back _ _ _ (Gr.refl _ _) hs
  have hs := hs.drop
  obtain ⟨A2, c2, rfl, _⟩ := hs.sl
  refine rNil (rFA (rStS hs.p2 (by simp) rfl ?_))
  intro w hs
  refine rNil (rFA (rFA (rLdS hs rfl (rSub (by omega) (by omega) (rNil (rFA (rFA (rStS hs (by simp) rfl ?_))))))))
  intro w hs
  refine ⟨k, by first | exact hk | rfl, hq, St.p1 (QueueH.shut (n := l.length - k) (by simp; omega) (by simp; omega) hs)⟩

end

section
variable {c : World} {I : CM} {F : Hp} {As : List HP} {w : World}
theorem s_All_int (g : Nat) (most : Int) (l : List Int) (hs : St c I F (QueueH Ty.int T_queue_Queue_int T_int g most l :: As) w) :
    Calls Try.prog i_queue_Queue_int_All #[.pointer (some ⟨g, 0, none⟩)] w (callR (fun r w' => St c I F (OwnSl Ty.int T_int r l :: QueueH Ty.int T_queue_Queue_int T_int g most l :: As) w') noP) := by
  obtain ⟨v, hq, hs⟩ := QueueH.open hs
  refine c_queue_Queue_int_All ?_
  unfold n_queue_Queue_int_All
  refine rNil (rFA (rLdS hs rfl ?_))
  obtain ⟨F', hF, hr, hs, back⟩ := hs.p1.lendSl (by omega)
  have hC := s_Clone_int hs _ _ hr (by omega)
  refine rCall hC ?_; clear hC
  rintro out w hs
  obtain ⟨-, hs⟩ := back _ _ _ (Gr.refl _ _) hs
  exact St.p1 (QueueH.shut rfl hq hs.p2)
end
section
variable {c : World} {I : CM} {F : Hp} {As : List HP} {w : World}
theorem s_Peek_int (g : Nat) (most : Int) (l : List Int) (hs : St c I F (QueueH Ty.int T_queue_Queue_int T_int g most l :: As) w) :
    Calls Try.prog i_queue_Queue_int_Peek #[.pointer (some ⟨g, 0, none⟩)] w (callR (fun r w' => r = .tuple #[.int .i64 (l.headD 0), .bool (decide (l ≠ []))] ∧ St c I F (QueueH Ty.int T_queue_Queue_int T_int g most l :: As) w') noP) := by
  obtain ⟨v, hq, hs⟩ := QueueH.open hs
  refine c_queue_Queue_int_Peek ?_
  unfold n_queue_Queue_int_Peek
  refine rNil (rFA (rFA (rLdS hs rfl (rEql (rCond (fun h => ?_) fun h => ?_)))))
  · have : l = [] := List.eq_nil_of_length_eq_zero (by omega)
    subst this; exact ⟨rfl, QueueH.shut rfl hq hs⟩
  · have hr := hs.p1.slRead (by omega)
    obtain ⟨A, n, rfl, _⟩ := hr.parts
    obtain ⟨b, o, us, rfl, hu, hr, -⟩ := hr.at (i := 0) (by omega)
    obtain ⟨rfl, _⟩ := hr
    have hcell := hide_cell (hu 0 (by simp))
    refine rNil (rFA (rLdS hs rfl (rIA (by omega) (by omega) (rLoad (by simpa using hcell) ?_))))
    refine ⟨?_, QueueH.shut rfl hq hs⟩
    cases l with
    | nil => simp at h
    | cons x l => simp
end
section
variable {c : World} {I : CM} {F : Hp} {As : List HP} {w : World}
theorem s_Peek_string (g : Nat) (most : Int) (l : List ByteArray) (hs : St c I F (QueueH Ty.str T_queue_Queue_string T_string g most l :: As) w) :
    Calls Try.prog i_queue_Queue_string_Peek #[.pointer (some ⟨g, 0, none⟩)] w (callR (fun r w' => r = .tuple #[.string (l.headD ⟨#[]⟩), .bool (decide (l ≠ []))] ∧ St c I F (QueueH Ty.str T_queue_Queue_string T_string g most l :: As) w') noP) := by
  obtain ⟨v, hq, hs⟩ := QueueH.open hs
  refine c_queue_Queue_string_Peek ?_
  unfold n_queue_Queue_string_Peek
  refine rNil (rFA (rFA (rLdS hs rfl (rEql (rCond (fun h => ?_) fun h => ?_)))))
  · have : l = [] := List.eq_nil_of_length_eq_zero (by omega)
    subst this; exact ⟨rfl, QueueH.shut rfl hq hs⟩
  · have hr := hs.p1.slRead (by omega)
    obtain ⟨A, n, rfl, _⟩ := hr.parts
    obtain ⟨b, o, us, rfl, hu, hr, -⟩ := hr.at (i := 0) (by omega)
    obtain ⟨rfl, _⟩ := hr
    have hcell := hide_cell (hu 0 (by simp))
    refine rNil (rFA (rLdS hs rfl (rIA (by omega) (by omega) (rLoad (by simpa using hcell) ?_))))
    refine ⟨?_, QueueH.shut rfl hq hs⟩
    cases l with
    | nil => simp at h
    | cons x l => simp
end

section
variable {c : World} {I : CM} {F : Hp} {As : List HP} {w : World}
/-- SameInts over two readings -/
theorem s_SameInts (va vb : Value) (la lb : List Int) (hs : St c I F As w) (ha : RS Ty.int (Rd I F) I va la) (hb : RS Ty.int (Rd I F) I vb lb) :
    Calls Try.prog i_trommelmem_SameInts #[va, vb] w (callR (fun v w' => v = .bool (decide (la = lb)) ∧ St c I F As w') noP) := by
  obtain ⟨A, ca, rfl, _, _, ha'⟩ := ha.parts
  obtain ⟨B, cb, rfl, _, _, hb'⟩ := hb.parts
  refine c_trommelmem_SameInts ?_
  unfold n_trommelmem_SameInts
  refine rLen (rLen (rNeq (rCond (fun h => ?_) fun h => ?_)))
  · refine ⟨?_, hs⟩
    rw [decide_eq_false]; intro e; subst e; omega
  have hnm : la.length = lb.length := by omega
  refine rLen ?_
  refine rLoop1 (fun x w1 => ∃ k : Nat, x = .int .i64 k ∧ k ≤ la.length ∧ la.take k = lb.take k ∧ St c I F As w1) (fun x _ => match x with | .int _ k => la.length - k.toNat | _ => 0) ⟨0, rfl, Nat.zero_le _, rfl, hs⟩ ?_
  rintro f w ag hag ⟨k, hk, hkn, ht, hs⟩
  simp only [hk] at hag ⊢
  refine rLss (rCond (fun hlt => ?_) fun hge => ?_)
  · have hkn : k < la.length := by omega
    obtain ⟨b, o, us, rfl, hu, ⟨rfl, _⟩, -⟩ := ha.at (i := k) hkn
    obtain ⟨b', o', us', rfl, hu', ⟨rfl, _⟩, -⟩ := hb.at (i := k) (by omega)
    have hs := hs.drew
    have h1 := hs.rdCell (hu 0 (by simp))
    have h2 := hs.rdCell (hu' 0 (by simp))
    refine rIA (by omega) (by omega) (rLD (by simpa using h1) (rIA (by omega) (by omega) (rLD (by simpa using h2) (rD rfl (rNeq (rCond (fun h => ?_) fun h => ?_))))))
    · refine ⟨?_, hs⟩
      rw [decide_eq_false]; rintro rfl; exact h rfl
    · refine rAdd (by omega) (by omega) (hag _ _ ⟨k + 1, by simp, by omega, ?_, hs⟩ (by dsimp only; omega))
      rw [List.take_succ_eq_append_getElem (by omega), List.take_succ_eq_append_getElem (by omega), ht]
      simp at h; rw [h]
  · refine ⟨?_, hs⟩
    have : k = la.length := by omega
    subst this
    rw [List.take_of_length_le (by omega), List.take_of_length_le (by omega)] at ht
    rw [decide_eq_true ht]

theorem s_fixed (hs : St c I F As w) : Calls Try.prog i_trommellaw21_fixed #[] w (callR (fun r w' => r = .bool true ∧ ∃ J, Gr F I J ∧ St c J F As w') noP) := by
  refine c_trommellaw21_fixed ?_
  unfold n_trommellaw21_fixed
  have hC := s_New_int hs 2
  refine rCall hC ?_; clear hC
  rintro _ w ⟨g, rfl, hs⟩
  have hC := s_New_string hs 1
  refine rCall hC ?_; clear hC
  rintro _ w ⟨p, rfl, hs⟩
  refine rEqlPN (rG1 (rG1 (rEqlPN (rPickF (rG1 (rG1 (rBuildSS hs [.int .i64 1, .int .i64 2, .int .i64 3] (by decide) (by kernel_rfl) ?_)))))))
  intro a w hs
  obtain ⟨J, hJ, hx, hs⟩ := hs.ints (l := [1, 2, 3]) (by simp) (by simp) 3 rfl
  have hC := s_Put_int g _ 2 [] [1, 2, 3] hs.p1 hx.rd
  refine rG1 (rCall hC ?_); clear hC
  rintro _ w ⟨k, rfl, hk, -, hs⟩
  obtain rfl : k = 2 := by simp at hk; omega
  refine rG1 (rNeqF rfl (rPickF (rG1 (rG1 (rNil (rG1 (rFA (rG1 ?_))))))))
  have hC := q_Room _ _ _ g _ _ hs
  refine rCall hC ?_; clear hC
  rintro _ w ⟨rfl, -, hs⟩
  refine rG1 (rNeqF rfl (rPickF (rG1 (rG1 (rNil (rG1 (rFA (rG1 ?_))))))))
  have hC := q_Len _ _ _ g _ _ hs
  refine rCall hC ?_; clear hC
  rintro _ w ⟨rfl, -, hs⟩
  refine rG1 (rNeqF rfl (rPickF (rG1 (rG1 (rBuildSS hs [.string (ByteArray.mk #[120])] (by decide) (by kernel_rfl) ?_)))))
  intro a2 w hs
  obtain ⟨J2, hJ2, hx2, hs⟩ := hs.strs (l := [ByteArray.mk #[120]]) (by intro x hx; rcases List.mem_singleton.1 hx with rfl; exact (by decide : (1 : Nat) ≤ 140737488355328)) (by simp) 1 rfl
  have hC := s_Put_string p _ 1 [] [ByteArray.mk #[120]] hs.p1 hx2.rd
  refine rG1 (rCall hC ?_); clear hC
  rintro _ w ⟨k, rfl, hk, -, hs⟩
  obtain rfl : k = 1 := by simp at hk; omega
  refine rG1 (rNeqF rfl (rPickF (rFalse ?_)))
  have hC := s_Peek_int g _ _ hs.p1
  refine rCall hC ?_; clear hC
  rintro _ w ⟨rfl, hs⟩
  refine rEX0 (rEX1 ?_)
  have hC := s_Peek_string p _ _ hs.p1
  refine rCall hC ?_; clear hC
  rintro _ w ⟨rfl, hs⟩
  refine rEX0 (rEX1 ?_)
  refine rG1 (rG1 (rEqlT rfl (rPickT (rG1 (rPickT (rG1 (rG1 (rEqlST rfl (rPickT (rG1 (rG1 ?_)))))))))))
  have hC := s_All_int g _ _ hs.p1
  refine rCall hC ?_; clear hC
  rintro r w hs
  obtain ⟨J3, hJ3, hr3, hs⟩ := hs.lastSl (by simp)
  refine rG1 (rBuildSS hs [.int .i64 1, .int .i64 2] (by decide) (by kernel_rfl) ?_)
  intro a3 w hs
  obtain ⟨J4, hJ4, hr4, hs⟩ := hs.ints (l := [1, 2]) (by simp) (by simp) 2 rfl
  have hC := s_SameInts _ _ _ _ hs (hr3.mono hJ4.le).rd hr4.rd
  refine rG1 (rCall hC ?_); clear hC
  rintro _ w ⟨rfl, hs⟩
  simp only [List.nil_append, List.take_succ_cons, List.take_zero, decide_true]
  refine rPickT (rG1 (rG1 ?_))
  have hC := s_Take_int g _ _ 5 hs
  refine rCall hC ?_; clear hC
  rintro r w ⟨k, hk, -, hs⟩
  obtain rfl : k = 2 := by simp at hk; omega
  obtain ⟨J5, hJ5, hr5, hs⟩ := hs.lastSl (by simp)
  refine rG1 (rBuildSS hs [.int .i64 1, .int .i64 2] (by decide) (by kernel_rfl) ?_)
  intro a3 w hs
  obtain ⟨J6, hJ6, hr6, hs⟩ := hs.ints (l := [1, 2]) (by simp) (by simp) 2 rfl
  have hC := s_SameInts _ _ _ _ hs (hr5.mono hJ6.le).rd hr6.rd
  refine rG1 (rCall hC ?_); clear hC
  rintro _ w ⟨rfl, hs⟩
  simp only [List.nil_append, List.take_succ_cons, List.take_zero, decide_true]
  refine rPickT (rG1 (rG1 (rNil (rG1 (rFA (rG1 ?_))))))
  have hC := q_Len _ _ _ g _ _ hs
  refine rCall hC ?_; clear hC
  rintro _ w ⟨rfl, -, hs⟩
  refine rG1 (rEqlT rfl (rPickT ⟨rfl, _, ((((hJ.trans hJ2).trans hJ3).trans hJ4).trans hJ5).trans hJ6, hs.drop.drop⟩))
end
end Go.Proofs.Ytahipnlffgbjgaa
