/- Contracts of trommelmem: numbers. -/
import Derived.Test.YtlbihkgfejgefaaDoorL16
import Derived.Test.YtlbihkgfejgefaaDoorN0
import Derived.Test.YtlbihkgfejgefaaDoorN1
import Derived.Test.YtlbihkgfejgefaaDoorN2
namespace Go.Proofs.YtlbihkgfejgefaaDoor
open Go L
set_option linter.unusedVariables false

section
variable {c : World} {I : CM} {F : Hp} {As : List HP} {w : World}

theorem m_Ints (v : Value) (l : List Int) (hs : St c I F As w) (hv : RS Ty.int (Rd I F) I v l) (hl : l.length ≤ 1048576) :
    Calls Tryd.prog i_trommelmem_Ints #[v] w (callR (fun r w' => St c I F (OwnSp Ty.int T_int r l [-77, -78] :: As) w') noP) := by
  obtain ⟨A, cp, hve, hcp, hcp', -⟩ := hv.parts
  rw [hve] at hv ⊢
  refine c_trommelmem_Ints ?_
  unfold n_trommelmem_Ints
  refine rLen <| rAdd (by omega) (by omega) <| rMkS Ty.int hs rfl (by omega) (by omega) (by omega) ?_; clear hs
  intro v1 w hs
  refine rAppS hs hv rfl (by rfl) (by decide) (by simp; omega) (by decide) ?_; clear hs
  intro v2 w hs
  refine rBuildSS hs [.int .i64 (-77), .int .i64 (-78)] (by decide) (by kernel_rfl) ?_; clear hs
  intro g w hs
  have h1 := hs.ownInts (l := [-77, -78]) (by simp) (by simp) 2 rfl
  obtain ⟨F', hF, hr, h2, back⟩ := h1.lendSl (by simp)
  refine rAppS h2 hr rfl (by rfl) (by decide) (by simp; omega) (by decide) ?_; clear hs h1 h2
  intro v3 w hs
  obtain ⟨-, h1⟩ := back _ _ _ (Gr.refl _ _) hs
  have h2 := h1.drop
  rw [List.nil_append] at h2
  obtain ⟨A3, c3, he3, h31, h32⟩ := h2.sl
  rw [he3] at h2 ⊢
  refine rLen <| rSL (l := 0) (m := l.length) (.inl ⟨rfl, rfl⟩) (.inr ⟨_, rfl⟩) (Nat.zero_le _) (by simp at h31; omega) ?_
  rw [slA_zero]
  simp only [Nat.sub_zero]
  exact OwnSp.shut rfl h2

theorem m_OverInts (v : Value) (l : List Int) (hs : St c I F (OwnSl Ty.int T_int v l :: As) w) (hl : l.length ≤ 1048576) :
    Calls Tryd.prog i_trommelmem_OverInts #[v] w (callR (fun r w' => St c I F As w') noP) := by
  obtain ⟨A, cp, hve, hcp, hcp'⟩ := hs.sl
  rw [hve] at hs ⊢
  refine c_trommelmem_OverInts ?_
  unfold n_trommelmem_OverInts
  refine rLen ?_
  refine rLoop1 (fun x w' => ∃ (i : Nat) (l' : List Int), x = .int .i64 i ∧ i ≤ l.length ∧ l'.length = l.length ∧ St c I F (OwnSl Ty.int T_int (.slice A l.length cp) l' :: As) w') (fun x _ => match x with | .int _ k => l.length - k.toNat | _ => 0)
    ⟨0, l, rfl, Nat.zero_le _, rfl, hs⟩ ?_
  clear hs
  rintro f w ag hag ⟨i, l', hi, hin, hll, hs⟩
  simp only [hi] at hag ⊢
  refine rLss (rCond (fun hlt => ?_) fun hge => ?_)
  · obtain ⟨g, hA, -⟩ := hs.slAddr (by intro e; rw [e] at hll; simp at hll; omega)
    rw [hA] at hs ⊢
    refine rSub (by omega) (by omega) <| rIA (by omega) (by omega) ?_
    refine rStSl hs i (by omega) (by omega) rfl (x := -1000 - (i : Int)) ⟨rfl, by omega, by omega⟩ ?_
    clear hs
    intro w hs
    exact rAdd (by omega) (by omega) (hag _ _ ⟨i + 1, l'.set i (-1000 - (i : Int)), by simp, by omega, by simp [hll], by rw [hA]; exact hs⟩ (by dsimp only; omega))
  · refine rBuildSS hs [.int .i64 (-5), .int .i64 (-6)] (by decide) (by kernel_rfl) ?_; clear hs
    intro g w hs
    have h1 := hs.ownInts (l := [-5, -6]) (by simp) (by simp) 2 rfl
    obtain ⟨F', hF, hr, h2, back⟩ := h1.lendSl (by simp)
    refine rAppS h2 hr rfl (by rfl) (by decide) (by simp; omega) (by decide) ?_; clear hs h1 h2
    intro v3 w hs
    obtain ⟨-, h1⟩ := back _ _ _ (Gr.refl _ _) hs
    have h2 := h1.drop
    obtain ⟨A3, c3, he3, h31, h32⟩ := h2.sl
    rw [he3] at h2 ⊢
    obtain ⟨g3, hA3, -⟩ := h2.slAddr (by simp)
    rw [hA3] at h2 ⊢
    refine rLen <| rIA (by omega) (by simp; omega) ?_
    refine rStSl h2 l.length (by simp; omega) (by omega) rfl (x := -7) ⟨rfl, by decide, by decide⟩ ?_
    intro w hs
    exact hs.drop

/-- SameInts over two readings -/
theorem m_SameInts (va vb : Value) (la lb : List Int) (hs : St c I F As w) (ha : RS Ty.int (Rd I F) I va la) (hb : RS Ty.int (Rd I F) I vb lb) :
    Calls Tryd.prog i_trommelmem_SameInts #[va, vb] w (callR (fun v w' => v = .bool (decide (la = lb)) ∧ St c I F As w') noP) := by
  obtain ⟨A, ca, hae, _, _, ha'⟩ := ha.parts
  obtain ⟨B, cb, hbe, _, _, hb'⟩ := hb.parts
  rw [hae] at ha ⊢; rw [hbe] at hb ⊢
  refine c_trommelmem_SameInts ?_
  unfold n_trommelmem_SameInts
  refine rLen (rLen (rNeq (rCond (fun h => ?_) fun h => ?_)))
  · refine ⟨?_, hs⟩
    rw [decide_eq_false]; intro e; subst e; omega
  have hnm : la.length = lb.length := by omega
  refine rLen ?_
  refine rLoop1 (fun x w1 => ∃ k : Nat, x = .int .i64 k ∧ k ≤ la.length ∧ la.take k = lb.take k ∧ St c I F As w1) (fun x _ => match x with | .int _ k => la.length - k.toNat | _ => 0) ⟨0, rfl, Nat.zero_le _, rfl, hs⟩ ?_
  clear hs
  rintro f w ag hag ⟨k, hk, hkn, ht, hs⟩
  simp only [hk] at hag ⊢
  refine rLss (rCond (fun hlt => ?_) fun hge => ?_)
  · have hkn : k < la.length := by omega
    obtain ⟨b, o, us, hA, hu, ⟨rfl, _⟩, -⟩ := ha.at (i := k) hkn
    obtain ⟨b', o', us', hB, hu', ⟨rfl, _⟩, -⟩ := hb.at (i := k) (by omega)
    rw [hA, hB]
    have hs := hs.drew
    have h1 := hs.rdCell (hu 0 (by simp))
    have h2 := hs.rdCell (hu' 0 (by simp))
    refine rIA (by omega) (by omega) (rLD (by simpa using h1) (rIA (by omega) (by omega) (rLD (by simpa using h2) (rD rfl (rNeq (rCond (fun h => ?_) fun h => ?_))))))
    · refine ⟨?_, hs⟩
      rw [decide_eq_false]; rintro rfl; exact h rfl
    · refine rAdd (by omega) (by omega) (hag _ _ ⟨k + 1, by simp, by omega, ?_, hs⟩ (by dsimp only; omega))
      rw [List.take_succ_eq_append_getElem (by omega), List.take_succ_eq_append_getElem (by omega), ht]
      simp at h; rw [h]
  · refine ⟨?_, hs⟩
    have : k = la.length := by omega
    subst this
    rw [List.take_of_length_le (by omega), List.take_of_length_le (by omega)] at ht
    rw [decide_eq_true ht]

theorem m_KeptInts (A : Option Addr) (cp : Nat) (vb : Value) (l lb : List Int) (hs : St c I F As w) (ha : RS Ty.int (Rd I F) I (.slice A (l ++ [-77, -78]).length cp) (l ++ [-77, -78])) (hb : RS Ty.int (Rd I F) I vb lb) (hl : l.length ≤ 1048576) :
    Calls Tryd.prog i_trommelmem_KeptInts #[.slice A l.length cp, vb] w (callR (fun v w' => v = .bool (decide (l = lb)) ∧ St c I F As w') noP) := by
  obtain ⟨B, cb, hbe, _, _, hb'⟩ := hb.parts
  rw [hbe] at hb ⊢
  obtain ⟨A', ca, hae, hca, hca', _⟩ := ha.parts
  simp only [List.length_append, List.length_cons, List.length_nil, Value.slice.injEq] at hae hca
  refine c_trommelmem_KeptInts ?_
  unfold n_trommelmem_KeptInts
  refine rLen <| rAdd (by omega) (by omega) <| rSL (l := 0) (m := l.length + 2) (.inl ⟨rfl, rfl⟩) (.inr ⟨_, rfl⟩) (Nat.zero_le _) (by omega) ?_
  rw [slA_zero]
  simp only [Nat.sub_zero]
  obtain ⟨b, o, us, hA, hu, ⟨rfl, _⟩, -⟩ := ha.at (i := l.length) (by simp)
  obtain ⟨b2, o2, us2, hA2, hu2, ⟨rfl, _⟩, -⟩ := ha.at (i := l.length + 1) (by simp)
  rw [hA] at hA2; cases hA2
  have hx := hu 0 (by simp)
  have hx2 := hu2 0 (by simp)
  simp at hx hx2
  have hC := m_SameInts (.slice A l.length cp) _ _ _ hs (by have := ha.take0 (m := l.length) (by simp); simpa using this) hb
  rw [hA] at hC ⊢
  refine rLen <| rLen <| rNeq ?_
  by_cases he : l.length = lb.length
  · rw [decide_eq_false (by omega)]
    refine rG1 <| rG1 <| rG1 <| rLen <| rG1 <| rIA (by omega) (by omega) <| rG1 <| rLoad (by simpa using hs.rdCell hx) <| rG1 <| rNeqF rfl <| rPickF <| rG1 <| rG1 <| rG1 <| rLen <| rG1 <| rAdd (by omega) (by omega) <| rG1 <| rIA (by omega) (by omega) <| rG1 <| rLoad (by have := hs.rdCell hx2; simpa [Nat.add_assoc] using this) <| rG1 <| rNeqF rfl <| rPickF <| rFalse ?_
    refine rCall hC ?_
    rintro _ w ⟨rfl, hs⟩
    exact ⟨rfl, hs⟩
  · rw [decide_eq_true (by omega)]
    refine rG0 <| rG0 <| rG0 <| rG0 <| rG0 <| rG0 <| rPickT <| rG0 <| rG0 <| rG0 <| rG0 <| rG0 <| rG0 <| rG0 <| rPickT <| rTrue ⟨?_, hs⟩
    rw [decide_eq_false]; intro e; subst e; exact he rfl
end
end Go.Proofs.YtlbihkgfejgefaaDoor
