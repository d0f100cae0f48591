/- names, numbers, words: tests of layer 4 on plain values. -/
import Derived.Test.YtlbihkgfejgefaaDoorL19
import Derived.Test.YtlbihkgfejgefaaDoorN0
import Derived.Test.YtlbihkgfejgefaaDoorN2
import Derived.Test.YtlbihkgfejgefaaDoorN4
namespace Go.Proofs.YtlbihkgfejgefaaDoor
open Go L
set_option linter.unusedVariables false

def letC (c : UInt8) : Bool := decide (97 ≤ c.toNat) && decide (c.toNat ≤ 122)
def okC (c : UInt8) : Bool := letC c || (decide (48 ≤ c.toNat) && decide (c.toNat ≤ 57)) || decide (c.toNat = 95)
def nameOk (s : ByteArray) : Bool := decide (s.data.toList ≠ []) && decide (s.data.toList.length ≤ 32) && (s.data.toList.head?.any letC) && s.data.toList.all okC
def numOk (n : Int) : Bool := decide (-2147483648 ≤ n) && decide (n ≤ 2147483647)
def wordOk (s : ByteArray) : Bool := decide (s.size ≤ 64)

theorem all_at {α : Type} {p : α → Bool} {l : List α} {k : Nat} (h : k < l.length) (hf : p l[k] = false) : l.all p = false := by
  rw [List.all_eq_false]; exact ⟨l[k], List.getElem_mem h, by simp [hf]⟩
theorem all_step {α : Type} {p : α → Bool} {l : List α} {k : Nat} (h : k < l.length) (ha : (l.take k).all p = true) (hf : p l[k] = true) : (l.take (k + 1)).all p = true := by
  rw [List.take_succ_eq_append_getElem h, List.all_append, ha]; simp [hf]
theorem str_at {s : ByteArray} {k : Nat} (h : k < s.size) : s.data.toList[k]'(by simpa using h) = s[k] := by simp [ByteArray.getElem_eq_getElem_data]

section
variable {c : World} {I : CM} {F : Hp} {As : List HP} {w : World}

theorem t_letter (x : UInt8) (hs : St c I F As w) : Calls Tryd.prog i_schema_letter #[.int .u8 (x.toNat : Int)] w (callR (fun r w' => r = .bool (letC x) ∧ St c I F As w') noP) := by
  refine c_schema_letter ?_
  unfold n_schema_letter
  repeat' (first | refine rG1 ?_ | refine rG0 ?_ | refine rPickT ?_ | refine rPickF ?_ | refine cGeq (fun _ => ?_) (fun _ => ?_) | refine cLeq (fun _ => ?_) (fun _ => ?_))
  all_goals (refine ⟨congrArg Value.bool ?_, hs⟩; simp [letC]; try omega)

theorem t_number (n : Int) (hs : St c I F As w) : Calls Tryd.prog i_tree_number #[.int .i64 n] w (callR (fun r w' => r = .bool (numOk n) ∧ St c I F As w') noP) := by
  refine c_tree_number ?_
  unfold n_tree_number
  repeat' (first | refine rG1 ?_ | refine rG0 ?_ | refine rPickT ?_ | refine rPickF ?_ | refine cGeq (fun _ => ?_) (fun _ => ?_) | refine cLeq (fun _ => ?_) (fun _ => ?_))
  all_goals (refine ⟨congrArg Value.bool ?_, hs⟩; simp [numOk]; try omega)

theorem t_refnumber (n : Int) (hs : St c I F As w) : Calls Tryd.prog i_trommelref04_number #[.int .i64 n] w (callR (fun r w' => r = .bool (numOk n) ∧ St c I F As w') noP) := by
  refine c_trommelref04_number ?_
  unfold n_trommelref04_number
  repeat' (first | refine rG1 ?_ | refine rG0 ?_ | refine rPickT ?_ | refine rPickF ?_ | refine cGeq (fun _ => ?_) (fun _ => ?_) | refine cLeq (fun _ => ?_) (fun _ => ?_))
  all_goals (refine ⟨congrArg Value.bool ?_, hs⟩; simp [numOk]; try omega)

theorem t_word (s : ByteArray) (hs : St c I F As w) : Calls Tryd.prog i_tree_word #[.string s] w (callR (fun r w' => r = .bool (wordOk s) ∧ St c I F As w') noP) := by
  refine c_tree_word ?_
  unfold n_tree_word
  refine rLenS <| cLeq (fun _ => ?_) (fun _ => ?_)
  all_goals (refine ⟨congrArg Value.bool ?_, hs⟩; simp [wordOk]; try omega)

theorem t_Name (s : ByteArray) (hl : s.size ≤ 140737488355328) (hs : St c I F As w) : Calls Tryd.prog i_schema_Name #[.string s] w (callR (fun r w' => r = .bool (nameOk s) ∧ St c I F As w') noP) := by
  refine c_schema_Name ?_
  unfold n_schema_Name
  have hsl : s.data.toList.length = s.size := by simp
  refine cEqlS (fun h => ?_) (fun h => ?_)
  · subst h
    repeat' (first | refine rG1 ?_ | refine rG0 ?_ | refine rPickT ?_ | refine rPickF ?_)
    exact rTrue ⟨rfl, hs⟩
  have hne : s.data.toList ≠ [] := fun e => h (by apply ByteArray.ext; apply Array.toList_inj.1; exact e)
  have hpos : 0 < s.size := by rw [← hsl]; exact List.length_pos_iff.2 hne
  refine rG1 <| rG1 <| rLenS <| rG1 <| cGtr (fun h1 => ?_) (fun h1 => ?_)
  · repeat' (first | refine rG1 ?_ | refine rG0 ?_ | refine rPickT ?_ | refine rPickF ?_)
    refine rTrue ⟨congrArg Value.bool ?_, hs⟩
    have : ¬ s.data.toList.length ≤ 32 := by omega
    simp only [nameOk, this, decide_false, Bool.and_false, Bool.false_and]
  refine rPickF <| rG1 <| rG1 <| rIXS (by decide) (by simpa using hpos) ?_
  have hC := t_letter s[0] hs
  refine rG1 <| rCall hC ?_; clear hC hs
  rintro _ w ⟨rfl, hs⟩
  have hh : s.data.toList.head? = some s[0] := by
    rw [List.head?_eq_getElem?, List.getElem?_eq_getElem (by omega), str_at hpos]
  refine cB (X := fun v => oG _ (fun K => oUn _ _ v _ _ K) _ _) (letC s[0]) (fun h2 => ?_) (fun h2 => ?_)
  · refine rG1 <| rNotT <| rPickF <| rFalse <| rLenS ?_
    refine rLoop1 (fun y w' => ∃ k : Nat, y = .int .i64 k ∧ k ≤ s.size ∧ (s.data.toList.take k).all okC = true ∧ St c I F As w') (fun y _ => match y with | .int _ k => s.size - k.toNat | _ => 0) ⟨0, rfl, Nat.zero_le _, by simp, hs⟩ ?_
    clear hs
    rintro f w ag hag ⟨k, hk, hkl, ha, hs⟩
    simp only [hk] at hag ⊢
    refine cLss (fun hlt => ?_) (fun hge => ?_)
    · have hkl : k < s.size := by omega
      have hkl' : k < s.data.toList.length := by omega
      have fin : okC s[k] = false → (Value.bool false = .bool (nameOk s)) := fun hf => congrArg Value.bool (by
        have := all_at (p := okC) hkl' (by rw [str_at hkl]; exact hf)
        simp only [nameOk, this, Bool.and_false])
      have nxt : ∀ w', okC s[k] = true → St c I F As w' → ag [.int .i64 ((k : Int) + 1)] w' := fun w' hf h => hag _ _ ⟨k + 1, by simp, by omega, all_step hkl' ha (by rw [str_at hkl]; exact hf), h⟩ (by dsimp only; omega)
      refine rTrue <| rIXS (by omega) (by simpa using hkl) ?_
      simp only [Int.toNat_natCast]
      generalize s[k] = x at fin nxt
      have hC := t_letter x hs
      refine rCall hC ?_; clear hC hs
      rintro _ w ⟨rfl, hs⟩
      refine cB (X := fun v => oUn _ _ v _ _ _) (letC x) (fun h3 => ?_) (fun h3 => ?_)
      · refine rNotT ?_
        repeat' (first | refine rG1 ?_ | refine rG0 ?_ | refine rPickT ?_ | refine rPickF ?_)
        exact rFalse <| rAdd (by omega) (by omega) <| nxt _ (by simp [okC, h3]) hs
      · refine rNotF ?_
        repeat' (first | refine rG1 ?_ | refine rG0 ?_ | refine rPickT ?_ | refine rPickF ?_ | refine cLss (fun _ => ?_) (fun _ => ?_) | refine cGtr (fun _ => ?_) (fun _ => ?_) | refine cNeq (fun _ => ?_) (fun _ => ?_) | refine rTrue ?_ | refine rFalse ?_)
        all_goals first
          | (refine ⟨fin ?_, hs⟩; simp [okC, h3]; omega)
          | (refine rAdd (by omega) (by omega) <| nxt _ ?_ hs; simp [okC, h3]; omega)
    · have : k = s.size := by omega
      subst this
      refine rFalse ⟨congrArg Value.bool ?_, hs⟩
      rw [List.take_of_length_le (by omega)] at ha
      have h3 : s.data.toList.length ≤ 32 := by omega
      simp only [nameOk, ha, hh, h3, hne, ne_eq, not_false_eq_true, decide_true, Option.any_some, h2, Bool.and_self]
  · refine rG1 <| rNotF <| rPickF <| rTrue ⟨congrArg Value.bool ?_, hs⟩
    simp only [nameOk, hh, Option.any_some, h2, Bool.and_false, Bool.false_and]
end
end Go.Proofs.YtlbihkgfejgefaaDoor
