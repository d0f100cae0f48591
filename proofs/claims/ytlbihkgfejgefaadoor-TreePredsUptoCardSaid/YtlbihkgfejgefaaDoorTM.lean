/- the fixed facts of layer 4. -/
import Derived.Test.YtlbihkgfejgefaaDoorTL
namespace Go.Proofs.YtlbihkgfejgefaaDoor
open Go L
set_option linter.unusedVariables false

def nA : TNode := .mk ⟨1, ⟨#[97]⟩, [1, -2], [], 0, 0⟩ 1 []
def nB : TNode := .mk ⟨3, ⟨#[97]⟩, [], [], 5, 3⟩ 1 []
def nC : TNode := .mk ⟨4, ⟨#[99]⟩, [], [⟨#[120]⟩], 0, 0⟩ 1 []
def nD : TNode := .mk ⟨2, ⟨#[99]⟩, [], [⟨#[121]⟩], 0, 0⟩ 1 []
def fixT : TNode := .mk zPred 3 [.mk zPred 4 [nA, nB], .mk zPred 2 [nC], nD]

mutual
theorem sameN_self : ∀ t, sameN t t = true
  | .mk p o ks => by simp [sameN, samePredB_self, sameL_self ks]
theorem sameL_self : ∀ l, sameL l l = true
  | [] => rfl
  | k :: r => by simp [sameL, sameN_self k, sameL_self r]
end

theorem itoa_1 : Lib.itoa 1 = [49] := by simp [Lib.itoa, Lib.decDigits]
theorem itoa_m2 : Lib.itoa (-2) = [45, 50] := by simp [Lib.itoa, Lib.decDigits]
theorem itoa_5 : Lib.itoa 5 = [53] := by simp [Lib.itoa, Lib.decDigits]
theorem itoa_3 : Lib.itoa 3 = [51] := by simp [Lib.itoa, Lib.decDigits]
theorem pr_A : printN nA = [97, 32, 123, 49, 44, 32, 45, 50, 125] := by
  simp [nA, printN, predT, joinT, itoaB, itoa_1, itoa_m2]
theorem pr_B : printN nB = [97, 32, 91, 53, 44, 32, 51, 93] := by
  simp [nB, printN, predT, joinT, itoaB, itoa_5, itoa_3]
theorem pr_C : printN nC = [99, 32, 34, 120, 34, 42] := by kernel_rfl
theorem pr_D : printN nD = [99, 32, 123, 34, 121, 34, 125] := by kernel_rfl
theorem pr_fix : printN fixT = [40, 97, 32, 123, 49, 44, 32, 45, 50, 125, 32, 124, 32, 97, 32, 91, 53, 44, 32, 51, 93, 41, 32, 38, 32, 33, 99, 32, 34, 120, 34, 42, 32, 38, 32, 99, 32, 123, 34, 121, 34, 125] := by
  have h1 : printN (.mk zPred 4 [nA, nB]) = printN nA ++ [32, 124, 32] ++ printN nB := by
    simp [printN, printL_map, kidB, parT, nA, nB, TNode.op, joinT, sepT]
  have h2 : printN (.mk zPred 2 [nC]) = [33] ++ printN nC := by
    simp [printN, printL_map, kidB, parT, nC, TNode.op, joinT, sepT]
  have h3 : printN fixT = [40] ++ printN (.mk zPred 4 [nA, nB]) ++ [41] ++ [32, 38, 32] ++ printN (.mk zPred 2 [nC]) ++ [32, 38, 32] ++ printN nD := by
    rw [fixT, printN, printL_map]
    simp [kidB, parT, nD, TNode.op, joinT, sepT]
  rw [h3, h1, h2, pr_A, pr_B, pr_C, pr_D]; rfl
theorem fine_leaf (p : D_api_Pred) (op : Int) (h1 : p.ints.length ≤ 1048576) (h2 : p.words.length ≤ 1048576) : Fine (.mk p op []) := .mk p op [] h1 h2 (by simp) (fun i h => by simp at h)
theorem fine_A : Fine nA := fine_leaf _ _ (by decide) (by decide)
theorem fine_B : Fine nB := fine_leaf _ _ (by decide) (by decide)
theorem fine_C : Fine nC := fine_leaf _ _ (by decide) (by decide)
theorem fine_D : Fine nD := fine_leaf _ _ (by decide) (by decide)
theorem fine_kids {l : List TNode} (h : ∀ x ∈ l, Fine x) : ∀ i (h : i < l.length), Fine l[i] := fun i hi => h _ (List.getElem_mem hi)
theorem fine_z (op : Int) {l : List TNode} (hl : l.length ≤ 1048576) (h : ∀ x ∈ l, Fine x) : Fine (.mk zPred op l) := .mk zPred op l (by decide) (by decide) hl (fine_kids h)

section
variable {c : World} {I : CM} {F : Hp} {As : List HP} {w : World}

theorem L.St.nodes {g E : Nat} {us : List (List Value)} {l : List TNode} (n : Nat) (hs : St c I F (Cells g us.flatten E :: As) w) (hn : n = l.length) (hl : us.length = l.length) (hr : ∀ i (h : i < l.length) (h' : i < us.length), Ty_Node.rep I us[i] l[i]) (hm : l.length ≤ 1048576) :
    ∃ J, Gr F I J ∧ RSl Ty_Node J (.slice (some ⟨g, 0, none⟩) n n) l ∧ St c J F As w :=
  (hs.toSl (T := Ty_Node) (l := l) n us rfl hn hl hr (by simp only [maxLen]; omega)).lastSl (by omega)
end
end Go.Proofs.YtlbihkgfejgefaaDoor
