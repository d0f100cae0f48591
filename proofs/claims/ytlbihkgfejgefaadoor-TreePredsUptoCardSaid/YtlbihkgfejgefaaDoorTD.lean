/- trommelref04.Pred. -/
import Derived.Test.YtlbihkgfejgefaaDoorTC
namespace Go.Proofs.YtlbihkgfejgefaaDoor
open Go L
set_option linter.unusedVariables false

section
variable {c : World} {I : CM} {F : Hp} {As : List HP} {w : World}

theorem t_refName (s : ByteArray) (hl : s.size ≤ 140737488355328) (hs : St c I F As w) : Calls Tryd.prog i_trommelref02_Name #[.string s] w (callR (fun r w' => r = .bool (nameOk s) ∧ St c I F As w') noP) := by
  refine c_trommelref02_Name ?_
  unfold n_trommelref02_Name
  have hsl : s.data.toList.length = s.size := by simp
  refine cEqlS (fun h => ?_) (fun h => ?_)
  · subst h
    repeat' (first | refine rG1 ?_ | refine rG0 ?_ | refine rPickT ?_ | refine rPickF ?_)
    exact rTrue ⟨rfl, hs⟩
  have hne : s.data.toList ≠ [] := fun e => h (by apply ByteArray.ext; apply Array.toList_inj.1; exact e)
  have hpos : 0 < s.size := by rw [← hsl]; exact List.length_pos_iff.2 hne
  refine rG1 <| rG1 <| rLenS <| rG1 <| cGtr (fun h1 => ?_) (fun h1 => ?_)
  · refine rPickF <| rTrue ⟨congrArg Value.bool ?_, hs⟩
    have : ¬ s.data.toList.length ≤ 32 := by omega
    simp only [nameOk, this, decide_false, Bool.and_false, Bool.false_and]
  have hh : s.data.toList.head? = some s[0] := by
    rw [List.head?_eq_getElem?, List.getElem?_eq_getElem (by omega), str_at hpos]
  refine rPickF <| rFalse ?_
  refine rLoop1 (fun y w' => ∃ k : Nat, y = .int .i64 k ∧ k ≤ s.size ∧ (0 < k → letC s[0] = true) ∧ (s.data.toList.take k).all okC = true ∧ St c I F As w') (fun y _ => match y with | .int _ k => s.size - k.toNat | _ => 0) ⟨0, rfl, Nat.zero_le _, fun h => absurd h (by decide), by simp, hs⟩ ?_
  clear hs
  rintro f w ag hag ⟨k, hk, hkl, h0, ha, hs⟩
  simp only [hk] at hag ⊢
  refine rLenS <| cLss (fun hlt => ?_) (fun hge => ?_)
  · have hkl : k < s.size := by omega
    have hkl' : k < s.data.toList.length := by omega
    have fin : (okC s[k] = false ∨ (k = 0 ∧ letC s[k] = false)) → (Value.bool false = .bool (nameOk s)) := fun hf => congrArg Value.bool (by
      rcases hf with hf | ⟨rfl, hf⟩
      · have := all_at (p := okC) hkl' (by rw [str_at hkl]; exact hf)
        simp only [nameOk, this, Bool.and_false]
      · simp only [nameOk, hh, Option.any_some, hf, Bool.and_false, Bool.false_and])
    have nxt : ∀ w', okC s[k] = true → (k = 0 → letC s[k] = true) → St c I F As w' → ag [.int .i64 ((k : Int) + 1)] w' := fun w' hf hf0 h => hag _ _ ⟨k + 1, by simp, by omega, fun _ => by
      by_cases hk0 : k = 0
      · subst hk0; exact hf0 rfl
      · exact h0 (by omega), all_step hkl' ha (by rw [str_at hkl]; exact hf), h⟩ (by dsimp only; omega)
    refine rTrue <| rIXS (by omega) (by simpa using hkl) ?_
    simp only [Int.toNat_natCast]
    generalize s[k] = x at fin nxt
    repeat' (first | refine rG1 ?_ | refine rG0 ?_ | refine rPickT ?_ | refine rPickF ?_ | refine rNotT ?_ | refine rNotF ?_ | refine cLss (fun _ => ?_) (fun _ => ?_) | refine cGtr (fun _ => ?_) (fun _ => ?_) | refine cGeq (fun _ => ?_) (fun _ => ?_) | refine cLeq (fun _ => ?_) (fun _ => ?_) | refine cEql (fun _ => ?_) (fun _ => ?_) | refine cNeq (fun _ => ?_) (fun _ => ?_) | refine rTrue ?_ | refine rFalse ?_)
    all_goals first
      | (refine rAdd (by omega) (by omega) <| nxt _ ?_ ?_ hs <;> (simp [okC, letC]; omega))
      | (refine ⟨fin (.inl ?_), hs⟩; simp [okC, letC]; omega)
      | (refine ⟨fin (.inr ⟨by omega, ?_⟩), hs⟩; simp [letC]; omega)
  · have : k = s.size := by omega
    subst this
    refine rFalse ⟨congrArg Value.bool ?_, hs⟩
    rw [List.take_of_length_le (by omega)] at ha
    have h3 : s.data.toList.length ≤ 32 := by omega
    simp only [nameOk, ha, hh, h3, hne, ne_eq, not_false_eq_true, decide_true, Option.any_some, h0 hpos, Bool.and_self]

set_option maxHeartbeats 2000000 in
theorem t_refPred (us : List Value) (p : D_api_Pred) (hs : St c I F As w) (hp : Ty_api_Pred.rep (Rd I F) us p) :
    Calls Tryd.prog i_trommelref04_Pred #[.agg us.toArray] w (callR (fun r w' => r = .bool (predOk p) ∧ St c I F As w') noP) := by
  obtain ⟨v2, v3, hus, -, k1, k2, k3, -, -⟩ := hp
  subst hus
  have k2' := RS.flat (J := I) flat_int k2.rs
  have k3' := RS.flat (J := I) flat_str k3.rs
  obtain ⟨A2, c2, hv2, -, -, hl2⟩ := k2.rs.parts
  obtain ⟨A3, c3, hv3, -, -, hl3⟩ := k3.rs.parts
  subst hv2 hv3
  refine c_trommelref04_Pred ?_
  unfold n_trommelref04_Pred
  refine rBoxS hs _ rfl ?_; clear hs
  intro g w hd
  refine rFA <| rLdS hd rfl ?_
  have hC := t_refName p.attr k1 hd
  refine rCall hC ?_
  clear hC hd
  rintro r w ⟨hr, hd⟩
  cases hb1 : nameOk p.attr <;> (rw [hb1] at hr; subst hr)
  · exact rNotF <| rTrue ⟨by simp [predOk, hb1], hd.drop⟩
  refine rNotT <| rFalse ?_
  refine rLoop1 (fun y w' => ∃ k : Nat, y = .int .i64 k ∧ k ≤ p.ints.length ∧ (p.ints.take k).all numOk = true ∧ St c I F (Cells g _ _ :: As) w') (fun y _ => match y with | .int _ k => p.ints.length - k.toNat | _ => 0) ⟨0, rfl, Nat.zero_le _, by simp, hd⟩ ?_
  clear hd
  rintro f w ag hag ⟨k, hk, hkl, ha, hd⟩
  simp only [hk] at hag ⊢
  refine rFA <| rLdS hd rfl <| rLen <| cLss (fun hlt => ?_) (fun hge => ?_)
  · have hkl : k < p.ints.length := by omega
    obtain ⟨b, o, us, hA, hu, ⟨rfl, _⟩, -⟩ := k2'.at (i := k) hkl
    have h1 := hd.rdCell (hu 0 (by simp))
    refine rTrue <| rFA <| rLdS hd rfl ?_
    rw [hA]
    refine rIA (by omega) (by omega) <| rLoad (by simpa using h1) ?_
    have hC := t_refnumber p.ints[k] hd
    refine rCall hC ?_
    clear hC hd
    rintro r w ⟨hr, hd⟩
    cases hb2 : numOk p.ints[k] <;> (rw [hb2] at hr; subst hr)
    · exact rNotF <| rTrue ⟨by simp only [predOk, all_at hkl hb2]; simp, hd.drop⟩
    · exact rNotT <| rFalse <| rAdd (by omega) (by omega) <| hag _ _ ⟨k + 1, by simp, by omega, all_step hkl ha hb2, hd⟩ (by dsimp only; omega)
  have : k = p.ints.length := by omega
  subst this
  rw [List.take_of_length_le (by omega)] at ha
  refine rFalse ?_
  clear hag hk f
  refine rLoop1 (fun y w' => ∃ k : Nat, y = .int .i64 k ∧ k ≤ p.words.length ∧ (p.words.take k).all wordOk = true ∧ St c I F (Cells g _ _ :: As) w') (fun y _ => match y with | .int _ k => p.words.length - k.toNat | _ => 0) ⟨0, rfl, Nat.zero_le _, by simp, hd⟩ ?_
  clear hd
  rintro f w ag hag ⟨k, hk, hkl, ha2, hd⟩
  simp only [hk] at hag ⊢
  refine rFA <| rLdS hd rfl <| rLen <| cLss (fun hlt => ?_) (fun hge => ?_)
  · have hkl : k < p.words.length := by omega
    obtain ⟨b, o, us, hA, hu, ⟨rfl, _⟩, -⟩ := k3'.at (i := k) hkl
    have h1 := hd.rdCell (hu 0 (by simp))
    refine rTrue <| rFA <| rLdS hd rfl ?_
    rw [hA]
    refine rIA (by omega) (by omega) <| rLoad (by simpa using h1) <| rLenS <| cGtr (fun hb => ?_) (fun hb => ?_)
    · refine rTrue ⟨?_, hd.drop⟩
      have : wordOk p.words[k] = false := by simp [wordOk]; omega
      simp only [predOk, all_at hkl this]; simp
    · have : wordOk p.words[k] = true := by simp [wordOk]; omega
      exact rFalse <| rAdd (by omega) (by omega) <| hag _ _ ⟨k + 1, by simp, by omega, all_step hkl ha2 this, hd⟩ (by dsimp only; omega)
  have : k = p.words.length := by omega
  subst this
  rw [List.take_of_length_le (by omega)] at ha2
  refine rFalse ?_
  have hpk : predOk p = kindOk p := by simp only [predOk, hb1, ha, ha2, Bool.true_and]
  rw [hpk]
  have hd := hd.drew
  refine rFA <| rLDS hd rfl <| rD rfl <| rLen <| rFA <| rLDS hd rfl <| rD rfl <| rLen <| rFA <| rLdS hd rfl ?_
  refine cEql (fun e1 => ?_) (fun e1 => ?_)
  · refine rTrue ?_
    repeat' (first | refine rG1 ?_ | refine rG0 ?_ | refine rPickT ?_ | refine rPickF ?_ | refine rFA ?_ | refine rLdS hd rfl ?_ | refine cGeq (fun _ => ?_) (fun _ => ?_) | refine cLeq (fun _ => ?_) (fun _ => ?_) | refine cEql (fun _ => ?_) (fun _ => ?_))
    all_goals (refine ⟨congrArg Value.bool ?_, hd.drop⟩; simp only [kindOk, if_pos e1]; simp only [List.all_cons, List.all_nil, id_eq, Bool.and_true]; symm; first | (rw [Bool.eq_false_iff]; simp only [ne_eq, Bool.and_eq_true, decide_eq_true_eq]; omega) | (simp only [Bool.and_eq_true, decide_eq_true_eq]; omega))
  refine rFalse <| cEql (fun e2 => ?_) (fun e2 => ?_)
  · refine rTrue ?_
    repeat' (first | refine rG1 ?_ | refine rG0 ?_ | refine rPickT ?_ | refine rPickF ?_ | refine rFA ?_ | refine rLdS hd rfl ?_ | refine cGeq (fun _ => ?_) (fun _ => ?_) | refine cLeq (fun _ => ?_) (fun _ => ?_) | refine cEql (fun _ => ?_) (fun _ => ?_))
    all_goals (refine ⟨congrArg Value.bool ?_, hd.drop⟩; simp only [kindOk, if_neg e1, if_pos e2]; simp only [List.all_cons, List.all_nil, id_eq, Bool.and_true]; symm; first | (rw [Bool.eq_false_iff]; simp only [ne_eq, Bool.and_eq_true, decide_eq_true_eq]; omega) | (simp only [Bool.and_eq_true, decide_eq_true_eq]; omega))
  refine rFalse <| cEql (fun e3 => ?_) (fun e3 => ?_)
  · refine rTrue ?_
    repeat' (first | refine rG1 ?_ | refine rG0 ?_ | refine rPickT ?_ | refine rPickF ?_ | refine rFA ?_ | refine rLdS hd rfl ?_ | refine cEql (fun _ => ?_) (fun _ => ?_))
    any_goals (refine ⟨congrArg Value.bool ?_, hd.drop⟩; simp only [kindOk, if_neg e1, if_neg e2, if_pos e3]; simp only [List.all_cons, List.all_nil, id_eq, Bool.and_true]; symm; first | (rw [Bool.eq_false_iff]; simp only [ne_eq, Bool.and_eq_true, decide_eq_true_eq]; omega) | (simp only [Bool.and_eq_true, decide_eq_true_eq]; omega))
    have hC := t_refnumber p.lo hd
    refine rCall hC ?_
    clear hC hd
    rintro r w ⟨hr, hd⟩
    cases hb2 : numOk p.lo <;> (rw [hb2] at hr; subst hr)
    · repeat' (first | refine rG1 ?_ | refine rG0 ?_ | refine rPickT ?_ | refine rPickF ?_)
      refine ⟨congrArg Value.bool ?_, hd.drop⟩; simp only [kindOk, if_neg e1, if_neg e2, if_pos e3]; simp [*]
    repeat' (first | refine rG1 ?_ | refine rG0 ?_ | refine rPickT ?_ | refine rPickF ?_ | refine rFA ?_ | refine rLdS hd rfl ?_)
    have hC := t_refnumber p.hi hd
    refine rCall hC ?_
    clear hC hd
    rintro r w ⟨rfl, hd⟩
    repeat' (first | refine rG1 ?_ | refine rG0 ?_ | refine rPickT ?_ | refine rPickF ?_)
    refine ⟨congrArg Value.bool ?_, hd.drop⟩; simp only [kindOk, if_neg e1, if_neg e2, if_pos e3]; simp [*]
  refine rFalse <| cEql (fun e4 => ?_) (fun e4 => ?_)
  · refine rTrue ?_
    repeat' (first | refine rG1 ?_ | refine rG0 ?_ | refine rPickT ?_ | refine rPickF ?_ | refine rFA ?_ | refine rLdS hd rfl ?_ | refine cEql (fun _ => ?_) (fun _ => ?_))
    all_goals (refine ⟨congrArg Value.bool ?_, hd.drop⟩; simp only [kindOk, if_neg e1, if_neg e2, if_neg e3, if_pos e4]; simp only [List.all_cons, List.all_nil, id_eq, Bool.and_true]; symm; first | (rw [Bool.eq_false_iff]; simp only [ne_eq, Bool.and_eq_true, decide_eq_true_eq]; omega) | (simp only [Bool.and_eq_true, decide_eq_true_eq]; omega))
  · exact rFalse ⟨congrArg Value.bool (by simp only [kindOk, if_neg e1, if_neg e2, if_neg e3, if_neg e4]), hd.drop⟩
end
end Go.Proofs.YtlbihkgfejgefaaDoor
