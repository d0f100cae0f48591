/- strings.Join. -/
import Derived.Test.YtlbihkgfejgefaaDoorL18
import Derived.Test.YtlbihkgfejgefaaDoorB1
namespace Go.Proofs.YtlbihkgfejgefaaDoor
open Go L
set_option linter.unusedVariables false

def joinT (sep : List UInt8) : List ByteArray → List UInt8
  | [] => []
  | a :: r => a.data.toList ++ r.flatMap fun x => sep ++ x.data.toList
def szs (l : List ByteArray) : Nat := (l.map ByteArray.size).sum

theorem flat_len (sep : List UInt8) : ∀ r : List ByteArray, (r.flatMap fun x => sep ++ x.data.toList).length = sep.length * r.length + szs r := by
  intro r
  induction r with
  | nil => rfl
  | cons a r ih =>
    simp only [List.flatMap_cons, List.length_append, ih, szs, List.map_cons, List.sum_cons, List.length_cons, Nat.mul_add]
    have : a.data.toList.length = a.size := by simp
    omega
theorem join_len (sep : List UInt8) {l : List ByteArray} (h : l ≠ []) : (joinT sep l).length = sep.length * (l.length - 1) + szs l := by
  cases l with
  | nil => exact absurd rfl h
  | cons a r =>
    simp only [joinT, List.length_append, flat_len, szs, List.map_cons, List.sum_cons, List.length_cons, Nat.add_sub_cancel]
    have : a.data.toList.length = a.size := by simp
    omega
theorem szs_take {l : List ByteArray} {k : Nat} (h : k < l.length) : szs (l.take (k + 1)) = szs (l.take k) + l[k].size := by
  rw [List.take_succ_eq_append_getElem h]; simp only [szs, List.map_append, List.sum_append, List.map_cons, List.map_nil, List.sum_cons, List.sum_nil, Nat.add_zero]
theorem szs_le (l : List ByteArray) (k : Nat) : szs (l.take k) ≤ szs l := by
  have : szs l = szs (l.take k) + szs (l.drop k) := by simp only [szs]; rw [← List.sum_append, ← List.map_append, List.take_append_drop]
  omega

section
variable {c : World} {I : CM} {F : Hp} {As : List HP} {w : World} {g : Nat} {bs : List UInt8}

theorem b_grow {n : Nat} (hn : n ≤ 140737488355328) (hs : St c I F (Cells g [.pointer (some ⟨g, 0, none⟩), .slice none 0 0] T_strings_Builder :: As) w) :
    Calls Tryd.prog i_strings_Builder_grow #[.pointer (some ⟨g, 0, none⟩), .int .i64 n] w (callR (fun r w' => St c I F (BldH g [] :: As) w') noP) := by
  refine c_strings_Builder_grow ?_
  unfold n_strings_Builder_grow
  have hs := hs.drew
  refine ⟨fun w1 => w1.cell? ⟨g, 1, none⟩ = some (.slice none 0 0), hs.cell 1, ?_⟩
  refine rD rfl <| rNil <| rFA <| rHL (fun w1 h1 => h1) <| rD rfl <| rCap <| rD rfl <| rMul (by decide) (by decide) <| rD rfl <| rAdd (by omega) (by omega) ?_
  rw [show (2 * ((0 : Nat) : Int) + (n : Int)) = (n : Int) by omega]
  refine rMkNZ hs hn ?_; clear hs
  intro g2 cp w hs hcp hcp'
  refine ⟨hs.p1.cell 1, ?_⟩
  refine rD rfl <| rNil <| rFA <| rHL (fun w1 h1 => h1) <| rD rfl <| rLen <| rSL (l := 0) (m := 0) (.inl ⟨rfl, rfl⟩) (.inr ⟨_, rfl⟩) (Nat.le_refl _) (Nat.zero_le _) ?_
  rw [slA_zero]
  simp only [Nat.sub_zero]
  refine rNil <| rFA <| rLdS hs.p1 rfl <| rCopy0 rfl <| rNil <| rFA <| rStS hs.p1 (by simp) rfl ?_
  intro w hs
  exact BldH.shut (.inr rfl) hs

theorem b_Grow {n : Nat} (hn : n ≤ 140737488355328) (hs : St c I F (Cells g [.pointer none, .slice none 0 0] T_strings_Builder :: As) w) :
    Calls Tryd.prog i_strings_Builder_Grow #[.pointer (some ⟨g, 0, none⟩), .int .i64 n] w (callR (fun r w' => St c I F (BldH g [] :: As) w') noP) := by
  refine c_strings_Builder_Grow ?_
  unfold n_strings_Builder_Grow
  have hC := b_copyCheck hs (.inl rfl)
  refine rCall hC ?_; clear hC hs
  rintro r w hs
  refine rCut0 (fun w' => w' = w) (fun M hM => ?_) ?_
  · refine rLss <| rCond (fun h => ?_) fun h => hM _ rfl
    omega
  rintro f w' rfl
  have hs := hs.drew
  refine rD rfl <| rNil <| rFA <| rLDS hs rfl <| rD rfl <| rCap <| rD rfl <| rNil <| rFA <| rLDS hs rfl <| rD rfl <| rLen <| rD rfl <| rSub (by decide) (by decide) <| rD rfl <| rLss <| rCond (fun h => ?_) fun h => ?_
  · have hC := b_grow hn hs
    refine rCall hC ?_; clear hC hs
    rintro r w hs
    exact hs
  · exact BldH.shut (.inr rfl) (hs.ownNil Ty.byte T_uint8).p1

set_option maxHeartbeats 1000000 in
theorem b_Join (v : Value) (l : List ByteArray) (sep : ByteArray) (hs : St c I F As w) (hv : RS Ty.str (Rd I F) I v l) (hl : (joinT sep.data.toList l).length ≤ 140737488355328) :
    Calls Tryd.prog i_strings_Join #[v, .string sep] w (callR (fun r w' => r = .string ⟨(joinT sep.data.toList l).toArray⟩ ∧ St c I F As w') noP) := by
  obtain ⟨A, cp, rfl, hcp, hcp', hlen⟩ := hv.parts
  refine c_strings_Join ?_
  unfold n_strings_Join
  have hsl : sep.data.toList.length = sep.size := by simp
  refine rLen <| rEql <| rCond (fun h => ?_) fun h => ?_
  · have : l = [] := List.eq_nil_of_length_eq_zero (by omega)
    subst this
    exact ⟨rfl, hs⟩
  have hne : l ≠ [] := fun e => by subst e; exact h rfl
  have hjl := join_len sep.data.toList hne
  rw [hsl] at hjl
  have hpos : 0 < l.length := List.length_pos_iff.2 hne
  refine rEql <| rCond (fun h => ?_) fun h1 => ?_
  · obtain ⟨b, o, us, hA, hu, ⟨rfl, _⟩, -⟩ := hv.at (i := 0) hpos
    subst hA
    have h1 := hs.rdCell (hu 0 (by simp))
    refine rIA (by decide) (by omega) <| rLoad (by simpa using h1) ⟨?_, hs⟩
    match l, h with
    | [a], _ => simp [joinT]
  refine rCut1 (fun v w' => w' = w ∧ v = .int .i64 ((sep.size * (l.length - 1) : Nat) : Int)) (fun M hM => ?_) ?_
  · refine rLenS <| rGtr <| rCond (fun h2 => ?_) fun h2 => hM _ _ ⟨rfl, ?_⟩
    · refine rCut0 (fun w' => w' = w) (fun M hM => ?_) ?_
      · refine rLenS <| rLen <| rSub (by omega) (by omega) <| rQuo (by omega) <| rGeq <| rCond (fun h3 => ?_) fun h3 => hM _ rfl
        exfalso
        have e1 : ((9223372036854775807 : Int).tdiv ((l.length : Int) - 1)) = ((9223372036854775807 / (l.length - 1) : Nat) : Int) := by
          rw [show ((l.length : Int) - 1) = ((l.length - 1 : Nat) : Int) by omega]; rfl
        have h5 : ∀ q, q = 9223372036854775807 / (l.length - 1) → q ≤ sep.size → False := by
          intro q hq h4
          rw [hq] at h4
          have h5 := Nat.lt_mul_of_div_lt (Nat.lt_succ_of_le h4) (by omega)
          rw [Nat.succ_mul] at h5
          omega
        have h6 := Nat.div_le_self 9223372036854775807 (l.length - 1)
        generalize hq : 9223372036854775807 / (l.length - 1) = q at e1 h5 h6
        rw [e1, wrap64 (by omega)] at h3
        exact h5 q rfl (by omega)
      · rintro _ _ rfl
        refine rLenS <| rLen <| rSub (by omega) (by omega) ?_
        rw [show ((l.length : Int) - 1) = ((l.length - 1 : Nat) : Int) by omega]
        have e2 : ((sep.size : Int) * ((l.length - 1 : Nat) : Int)) = ((sep.size * (l.length - 1) : Nat) : Int) := by simp
        refine rMul (by omega) (by omega) <| rAdd (by omega) (by omega) <| hM _ _ ⟨rfl, ?_⟩
        rw [← e2]; simp
    · have : sep.size = 0 := by omega
      simp [this]
  rintro f w' ⟨rfl, hf⟩
  refine rLen ?_
  simp only [hf]
  refine rLoop2 (fun x y w' => ∃ k : Nat, y = .int .i64 k ∧ k ≤ l.length ∧ x = .int .i64 ((sep.size * (l.length - 1) + szs (l.take k) : Nat) : Int) ∧ St c I F As w') (fun _ y _ => match y with | .int _ k => l.length - k.toNat | _ => 0) ⟨0, rfl, Nat.zero_le _, by simp [szs], hs⟩ ?_
  clear hs f hf
  rintro f w ag hag ⟨k, hk, hkl, hx, hs⟩
  simp only [hk, hx] at hag ⊢
  refine rLss <| rCond (fun hlt => ?_) fun hge => ?_
  · have hkl : k < l.length := by omega
    obtain ⟨b, o, us, hA, hu, ⟨rfl, _⟩, -⟩ := hv.at (i := k) hkl
    subst hA
    have h1 := hs.rdCell (hu 0 (by simp))
    have h2 := szs_take hkl
    have h3 := szs_le l (k + 1)
    refine rIA (by omega) (by omega) <| rLoad (by simpa using h1) <| rCut0 (fun w' => w' = w) (fun M hM => ?_) ?_
    · refine rLenS <| rSub (by omega) (by omega) <| rGtr <| rCond (fun h4 => ?_) fun h4 => hM _ rfl
      omega
    · rintro _ _ rfl
      refine rLenS <| rAdd (by omega) (by omega) <| rAdd (by omega) (by omega) <| hag _ _ _ ⟨k + 1, by simp, by omega, ?_, hs⟩ (by dsimp only; omega)
      rw [h2]; congr 1; omega
  have : k = l.length := by omega
  subst this
  rw [List.take_length] at *
  refine rAllocS hs [.pointer none, .slice none 0 0] rfl ?_; clear hs
  intro g w hs
  have hC := b_Grow (n := sep.size * (l.length - 1) + szs l) (by omega) hs
  refine rCall hC ?_; clear hC hs
  rintro r w hs
  obtain ⟨b, o, us, hA, hu, ⟨rfl, _⟩, -⟩ := hv.at (i := 0) hpos
  subst hA
  have h2 := hs.rdCell (hu 0 (by simp))
  obtain ⟨a, rl, rfl⟩ : ∃ a rl, l = a :: rl := by cases l with | nil => exact absurd rfl hne | cons a rl => exact ⟨a, rl, rfl⟩
  have has : a.data.toList.length = a.size := by simp
  have hjj : (joinT sep.data.toList (a :: rl)).length = a.data.toList.length + (rl.flatMap fun x => sep.data.toList ++ x.data.toList).length := by simp only [joinT, List.length_append]
  refine rIA (by decide) (by omega) <| rLoad (by simpa using h2) ?_
  have hC := b_WriteString a hs (by simp; omega)
  refine rCall hC ?_; clear hC hs
  rintro r w hs
  have hv1 := hv.drop0 (m := 1) (by simp)
  refine rSL (l := 1) (m := (a :: rl).length) (.inr ⟨_, rfl⟩) (.inl ⟨rfl, rfl⟩) (by simp) (by omega) ?_
  simp only [List.drop_succ_cons, List.drop_zero] at hv1
  have hle : (a :: rl).length - 1 = rl.length := by simp
  rw [hle] at hv1 ⊢
  change RS Ty.str (Rd I F) I (.slice (slA (some ⟨b, o, none⟩) cp 1 1) rl.length (cp - 1)) rl at hv1
  generalize slA (some ⟨b, o, none⟩) cp 1 1 = B at hv1 ⊢
  refine rLen ?_
  refine rLoop1 (fun y w' => ∃ k : Nat, y = .int .i64 k ∧ k ≤ rl.length ∧ St c I F (BldH g (a.data.toList ++ (rl.take k).flatMap fun x => sep.data.toList ++ x.data.toList) :: As) w') (fun y _ => match y with | .int _ k => rl.length - k.toNat | _ => 0) ⟨0, rfl, Nat.zero_le _, by simpa using hs⟩ ?_
  clear hs hag hx hk
  rintro f w ag hag ⟨k, hk, hkl, hs⟩
  simp only [hk] at hag ⊢
  refine rLss <| rCond (fun hlt => ?_) fun hge => ?_
  · have hkl : k < rl.length := by omega
    obtain ⟨b, o, us, hA, hu, ⟨rfl, _⟩, -⟩ := hv1.at (i := k) hkl
    have h1 := hs.rdCell (hu 0 (by simp))
    have hB := flat_len sep.data.toList (rl.take k)
    have hB1 := flat_len sep.data.toList (rl.take (k + 1))
    have hB2 := flat_len sep.data.toList rl
    have h2 := szs_take hkl
    have h3 := szs_le rl (k + 1)
    have h4 : sep.data.toList.length * (rl.take (k + 1)).length ≤ sep.data.toList.length * rl.length := Nat.mul_le_mul_left _ (by rw [List.length_take]; exact Nat.min_le_right _ _)
    have h5 : sep.data.toList.length * (rl.take (k + 1)).length = sep.data.toList.length * (rl.take k).length + sep.data.toList.length := by
      rw [List.length_take, List.length_take, Nat.min_eq_left (by omega), Nat.min_eq_left (by omega), Nat.mul_succ]
    subst hA
    refine rIA (by omega) (by omega) <| rLoad (by simpa using h1) ?_
    have hC := b_WriteString sep hs (by rw [List.length_append]; omega)
    refine rCall hC ?_; clear hC hs
    rintro r w hs
    have hC := b_WriteString rl[k] hs (by rw [List.length_append, List.length_append]; omega)
    refine rCall hC ?_; clear hC hs
    rintro r w hs
    refine rAdd (by omega) (by omega) <| hag _ _ ⟨k + 1, by simp, by omega, ?_⟩ (by dsimp only; omega)
    have he : a.data.toList ++ (rl.take (k + 1)).flatMap (fun x => sep.data.toList ++ x.data.toList) = a.data.toList ++ (rl.take k).flatMap (fun x => sep.data.toList ++ x.data.toList) ++ sep.data.toList ++ rl[k].data.toList := by
      rw [List.take_succ_eq_append_getElem hkl, List.flatMap_append]; simp [List.append_assoc]
    rw [he]; exact hs
  · have : k = rl.length := by omega
    subst this
    rw [List.take_length] at hs
    have hC := b_String hs
    refine rCall hC ?_; clear hC hs
    rintro r w ⟨rfl, hs⟩
    exact ⟨rfl, hs⟩
end
end Go.Proofs.YtlbihkgfejgefaaDoor
