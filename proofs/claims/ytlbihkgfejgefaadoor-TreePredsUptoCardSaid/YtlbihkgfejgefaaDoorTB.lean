/- tests of whole lists; tree.Pred against the document's. -/
import Derived.Test.YtlbihkgfejgefaaDoorTA
namespace Go.Proofs.YtlbihkgfejgefaaDoor
open Go L
set_option linter.unusedVariables false

section
variable {c : World} {I : CM} {F : Hp} {As : List HP} {w : World}

theorem t_IndexFunc_int (q : Int → Bool) (fv v : Value) (l : List Int) (hf : ∀ (x : Int) w K, St c I F As w → (∀ w', St c I F As w' → K (.bool (q x)) w') → oCallV Tryd.prog fv [.int .i64 x] noP w K) (hs : St c I F As w) (hv : RS Ty.int (Rd I F) I v l) :
    Calls Tryd.prog i_slices_IndexFunc_int_int #[v, fv] w (callR (fun r w' => ∃ i : Int, r = .int .i64 i ∧ decide (0 ≤ i) = l.any q ∧ St c I F As w') noP) := by
  obtain ⟨A, cp, rfl, hcp, hcp', hlen⟩ := hv.parts
  refine c_slices_IndexFunc_int_int ?_
  unfold n_slices_IndexFunc_int_int
  refine rLen ?_
  refine rLoop1 (fun y w' => ∃ k : Nat, y = .int .i64 k ∧ k ≤ l.length ∧ (l.take k).any q = false ∧ St c I F As w') (fun y _ => match y with | .int _ k => l.length - k.toNat | _ => 0) ⟨0, rfl, Nat.zero_le _, by simp, hs⟩ ?_
  clear hs
  rintro f w ag hag ⟨k, hk, hkl, ha, hs⟩
  simp only [hk] at hag ⊢
  refine cLss (fun hlt => ?_) (fun hge => ?_)
  · have hkl : k < l.length := by omega
    obtain ⟨b, o, us, hA, hu, ⟨rfl, _⟩, -⟩ := hv.at (i := k) hkl
    subst hA
    have h1 := hs.rdCell (hu 0 (by simp))
    refine rTrue <| rIA (by omega) (by omega) <| rLoad (by simpa using h1) <| hf _ _ _ hs ?_
    clear hs
    intro w hs
    refine rCondB (fun hq => ?_) fun hq => ?_
    · refine ⟨k, rfl, ?_, hs⟩
      rw [List.any_eq_true.2 ⟨l[k], List.getElem_mem hkl, hq⟩]; simp
    · refine rAdd (by omega) (by omega) <| hag _ _ ⟨k + 1, by simp, by omega, ?_, hs⟩ (by dsimp only; omega)
      rw [List.take_succ_eq_append_getElem hkl, List.any_append, ha]; simp [hq]
  · have : k = l.length := by omega
    subst this
    rw [List.take_of_length_le (by omega)] at ha
    exact rFalse ⟨-1, rfl, by rw [ha]; rfl, hs⟩

theorem t_ContainsFunc_int (q : Int → Bool) (fv v : Value) (l : List Int) (hf : ∀ (x : Int) w K, St c I F As w → (∀ w', St c I F As w' → K (.bool (q x)) w') → oCallV Tryd.prog fv [.int .i64 x] noP w K) (hs : St c I F As w) (hv : RS Ty.int (Rd I F) I v l) :
    Calls Tryd.prog i_slices_ContainsFunc_int_int #[v, fv] w (callR (fun r w' => r = .bool (l.any q) ∧ St c I F As w') noP) := by
  refine c_slices_ContainsFunc_int_int ?_
  unfold n_slices_ContainsFunc_int_int
  have hC := t_IndexFunc_int q fv v l hf hs hv
  refine rCall hC ?_; clear hC hs
  rintro _ w ⟨i, rfl, hi, hs⟩
  refine rGeq ?_
  rw [hi]
  exact ⟨rfl, hs⟩

theorem t_every1_int {g E : Nat} (q : Int → Bool) (f : Nat) (x : Int) (w : World) (K : VK) (hf : ∀ {As : List HP} (x : Int) w K, St c I F As w → (∀ w', St c I F As w' → K (.bool (q x)) w') → oCallV Tryd.prog (.func (.func f) #[] #[]) [.int .i64 x] noP w K)
    (hs : St c I F (Cells g [.func (.func f) #[] #[]] E :: As) w) (hk : ∀ w', St c I F (Cells g [.func (.func f) #[] #[]] E :: As) w' → K (.bool (!q x)) w') : oCallV Tryd.prog (.func (.func i_tree_every_int_1) #[] #[.pointer (some ⟨g, 0, none⟩)]) [.int .i64 x] noP w K := by
  have hC : Calls Tryd.prog i_tree_every_int_1 #[.int .i64 x, .pointer (some ⟨g, 0, none⟩)] w (callR (fun r w' => r = .bool (!q x) ∧ St c I F (Cells g [.func (.func f) #[] #[]] E :: As) w') noP) := by
    refine c_tree_every_int_1 ?_
    unfold n_tree_every_int_1
    refine rLdS hs rfl <| hf _ _ _ hs fun w' h => ?_
    exact rNot ⟨rfl, h⟩
  refine rCallF hC ?_
  rintro _ w ⟨rfl, h⟩
  exact hk _ h

theorem t_every_int (q : Int → Bool) (f : Nat) (v : Value) (l : List Int) (hf : ∀ {As : List HP} (x : Int) w K, St c I F As w → (∀ w', St c I F As w' → K (.bool (q x)) w') → oCallV Tryd.prog (.func (.func f) #[] #[]) [.int .i64 x] noP w K) (hs : St c I F As w) (hv : RS Ty.int (Rd I F) I v l) :
    Calls Tryd.prog i_tree_every_int #[v, .func (.func f) #[] #[]] w (callR (fun r w' => r = .bool (l.all q) ∧ St c I F As w') noP) := by
  refine c_tree_every_int ?_
  unfold n_tree_every_int
  refine rBoxS hs [.func (.func f) #[] #[]] rfl ?_; clear hs
  intro g w hs
  have hC := t_ContainsFunc_int (fun x => !q x) (.func (.func i_tree_every_int_1) #[] #[.pointer (some ⟨g, 0, none⟩)]) v l (fun x w K hs hk => t_every1_int q f x w K hf hs hk) hs hv
  refine rCall hC ?_; clear hC hs
  rintro _ w ⟨rfl, hs⟩
  refine rNot ⟨congrArg Value.bool ?_, hs.drop⟩
  rw [List.not_any_eq_all_not]; simp

theorem t_IndexFunc_string (q : ByteArray → Bool) (fv v : Value) (l : List ByteArray) (hf : ∀ (x : ByteArray) w K, St c I F As w → (∀ w', St c I F As w' → K (.bool (q x)) w') → oCallV Tryd.prog fv [.string x] noP w K) (hs : St c I F As w) (hv : RS Ty.str (Rd I F) I v l) :
    Calls Tryd.prog i_slices_IndexFunc_string_string #[v, fv] w (callR (fun r w' => ∃ i : Int, r = .int .i64 i ∧ decide (0 ≤ i) = l.any q ∧ St c I F As w') noP) := by
  obtain ⟨A, cp, rfl, hcp, hcp', hlen⟩ := hv.parts
  refine c_slices_IndexFunc_string_string ?_
  unfold n_slices_IndexFunc_string_string
  refine rLen ?_
  refine rLoop1 (fun y w' => ∃ k : Nat, y = .int .i64 k ∧ k ≤ l.length ∧ (l.take k).any q = false ∧ St c I F As w') (fun y _ => match y with | .int _ k => l.length - k.toNat | _ => 0) ⟨0, rfl, Nat.zero_le _, by simp, hs⟩ ?_
  clear hs
  rintro f w ag hag ⟨k, hk, hkl, ha, hs⟩
  simp only [hk] at hag ⊢
  refine cLss (fun hlt => ?_) (fun hge => ?_)
  · have hkl : k < l.length := by omega
    obtain ⟨b, o, us, hA, hu, ⟨rfl, _⟩, -⟩ := hv.at (i := k) hkl
    subst hA
    have h1 := hs.rdCell (hu 0 (by simp))
    refine rTrue <| rIA (by omega) (by omega) <| rLoad (by simpa using h1) <| hf _ _ _ hs ?_
    clear hs
    intro w hs
    refine rCondB (fun hq => ?_) fun hq => ?_
    · refine ⟨k, rfl, ?_, hs⟩
      rw [List.any_eq_true.2 ⟨l[k], List.getElem_mem hkl, hq⟩]; simp
    · refine rAdd (by omega) (by omega) <| hag _ _ ⟨k + 1, by simp, by omega, ?_, hs⟩ (by dsimp only; omega)
      rw [List.take_succ_eq_append_getElem hkl, List.any_append, ha]; simp [hq]
  · have : k = l.length := by omega
    subst this
    rw [List.take_of_length_le (by omega)] at ha
    exact rFalse ⟨-1, rfl, by rw [ha]; rfl, hs⟩

theorem t_ContainsFunc_string (q : ByteArray → Bool) (fv v : Value) (l : List ByteArray) (hf : ∀ (x : ByteArray) w K, St c I F As w → (∀ w', St c I F As w' → K (.bool (q x)) w') → oCallV Tryd.prog fv [.string x] noP w K) (hs : St c I F As w) (hv : RS Ty.str (Rd I F) I v l) :
    Calls Tryd.prog i_slices_ContainsFunc_string_string #[v, fv] w (callR (fun r w' => r = .bool (l.any q) ∧ St c I F As w') noP) := by
  refine c_slices_ContainsFunc_string_string ?_
  unfold n_slices_ContainsFunc_string_string
  have hC := t_IndexFunc_string q fv v l hf hs hv
  refine rCall hC ?_; clear hC hs
  rintro _ w ⟨i, rfl, hi, hs⟩
  refine rGeq ?_
  rw [hi]
  exact ⟨rfl, hs⟩

theorem t_every1_string {g E : Nat} (q : ByteArray → Bool) (f : Nat) (x : ByteArray) (w : World) (K : VK) (hf : ∀ {As : List HP} (x : ByteArray) w K, St c I F As w → (∀ w', St c I F As w' → K (.bool (q x)) w') → oCallV Tryd.prog (.func (.func f) #[] #[]) [.string x] noP w K)
    (hs : St c I F (Cells g [.func (.func f) #[] #[]] E :: As) w) (hk : ∀ w', St c I F (Cells g [.func (.func f) #[] #[]] E :: As) w' → K (.bool (!q x)) w') : oCallV Tryd.prog (.func (.func i_tree_every_string_1) #[] #[.pointer (some ⟨g, 0, none⟩)]) [.string x] noP w K := by
  have hC : Calls Tryd.prog i_tree_every_string_1 #[.string x, .pointer (some ⟨g, 0, none⟩)] w (callR (fun r w' => r = .bool (!q x) ∧ St c I F (Cells g [.func (.func f) #[] #[]] E :: As) w') noP) := by
    refine c_tree_every_string_1 ?_
    unfold n_tree_every_string_1
    refine rLdS hs rfl <| hf _ _ _ hs fun w' h => ?_
    exact rNot ⟨rfl, h⟩
  refine rCallF hC ?_
  rintro _ w ⟨rfl, h⟩
  exact hk _ h

theorem t_every_string (q : ByteArray → Bool) (f : Nat) (v : Value) (l : List ByteArray) (hf : ∀ {As : List HP} (x : ByteArray) w K, St c I F As w → (∀ w', St c I F As w' → K (.bool (q x)) w') → oCallV Tryd.prog (.func (.func f) #[] #[]) [.string x] noP w K) (hs : St c I F As w) (hv : RS Ty.str (Rd I F) I v l) :
    Calls Tryd.prog i_tree_every_string #[v, .func (.func f) #[] #[]] w (callR (fun r w' => r = .bool (l.all q) ∧ St c I F As w') noP) := by
  refine c_tree_every_string ?_
  unfold n_tree_every_string
  refine rBoxS hs [.func (.func f) #[] #[]] rfl ?_; clear hs
  intro g w hs
  have hC := t_ContainsFunc_string (fun x => !q x) (.func (.func i_tree_every_string_1) #[] #[.pointer (some ⟨g, 0, none⟩)]) v l (fun x w K hs hk => t_every1_string q f x w K hf hs hk) hs hv
  refine rCall hC ?_; clear hC hs
  rintro _ w ⟨rfl, hs⟩
  refine rNot ⟨congrArg Value.bool ?_, hs.drop⟩
  rw [List.not_any_eq_all_not]; simp

/-- a literal list of truth values holds 'false' -/
theorem t_form (v : Value) (l : List Bool) (hs : St c I F As w) (hv : RS Ty.bool (Rd I F) I v l) :
    Calls Tryd.prog i_tree_form #[v] w (callR (fun r w' => r = .int .i64 (if l.all id then 0 else 1) ∧ St c I F As w') noP) := by
  have hI : Calls Tryd.prog i_slices_Index_bool_bool #[v, .bool false] w (callR (fun r w' => ∃ i : Int, r = .int .i64 i ∧ decide (0 ≤ i) = !l.all id ∧ St c I F As w') noP) := by
    obtain ⟨A, cp, rfl, hcp, hcp', hlen⟩ := hv.parts
    refine c_slices_Index_bool_bool ?_
    unfold n_slices_Index_bool_bool
    refine rLen ?_
    refine rLoop1 (fun y w' => ∃ k : Nat, y = .int .i64 k ∧ k ≤ l.length ∧ (l.take k).all id = true ∧ St c I F As w') (fun y _ => match y with | .int _ k => l.length - k.toNat | _ => 0) ⟨0, rfl, Nat.zero_le _, by simp, hs⟩ ?_
    clear hs
    rintro f w ag hag ⟨k, hk, hkl, ha, hs⟩
    simp only [hk] at hag ⊢
    refine cLss (fun hlt => ?_) (fun hge => ?_)
    · have hkl : k < l.length := by omega
      obtain ⟨b, o, us, hA, hu, rfl, -⟩ := hv.at (i := k) hkl
      subst hA
      have h1 := hs.rdCell (hu 0 (by simp))
      refine rTrue <| rIA (by omega) (by omega) <| rLoad (by simpa using h1) <| rEqlB ?_
      refine rCondB (fun hq => ?_) fun hq => ?_
      · refine ⟨k, rfl, ?_, hs⟩
        rw [all_at (p := id) hkl (by simpa using hq)]; simp
      · refine rAdd (by omega) (by omega) <| hag _ _ ⟨k + 1, by simp, by omega, all_step hkl ha (by simpa using hq), hs⟩ (by dsimp only; omega)
    · have : k = l.length := by omega
      subst this
      rw [List.take_of_length_le (by omega)] at ha
      exact rFalse ⟨-1, rfl, by rw [ha]; rfl, hs⟩
  have hK : Calls Tryd.prog i_slices_Contains_bool_bool #[v, .bool false] w (callR (fun r w' => r = .bool (!l.all id) ∧ St c I F As w') noP) := by
    refine c_slices_Contains_bool_bool ?_
    unfold n_slices_Contains_bool_bool
    refine rCall hI ?_
    rintro _ w ⟨i, rfl, hi, hs⟩
    refine rGeq ?_
    rw [hi]
    exact ⟨rfl, hs⟩
  refine c_tree_form ?_
  unfold n_tree_form
  refine rCall hK ?_
  rintro _ w ⟨rfl, hs⟩
  cases h : l.all id
  · exact rTrue ⟨by simp, hs⟩
  · exact rFalse ⟨by simp, hs⟩
end
end Go.Proofs.YtlbihkgfejgefaaDoor
