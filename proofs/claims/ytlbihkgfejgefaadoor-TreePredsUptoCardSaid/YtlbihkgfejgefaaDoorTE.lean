/- trees. -/
import Derived.Test.YtlbihkgfejgefaaDoorTD
namespace Go.Proofs.YtlbihkgfejgefaaDoor
open Go L
set_option linter.unusedVariables false

inductive TNode where
  | mk (pred : D_api_Pred) (op : Int) (kids : List TNode)
def TNode.pred : TNode → D_api_Pred | .mk p _ _ => p
def TNode.op : TNode → Int | .mk _ o _ => o
def TNode.kids : TNode → List TNode | .mk _ _ k => k

theorem kid_lt {p : D_api_Pred} {op : Int} {kids : List TNode} {i : Nat} (h : i < kids.length) : SizeOf.sizeOf kids[i] < SizeOf.sizeOf (TNode.mk p op kids) := by
  have := List.sizeOf_lt_of_mem (List.getElem_mem h)
  simp only [TNode.mk.sizeOf_spec]; omega

inductive NodeRep (I : CM) : List Value → TNode → Prop
  | mk (up : List Value) (p : D_api_Pred) (op : Int) (v : Value) (kids : List TNode) (uss : List (List Value)) : Ty_api_Pred.rep I up p → (-9223372036854775808 ≤ op ∧ op ≤ 9223372036854775807) → RSl (Ty.raw 8) I v uss → uss.length = kids.length →
      (∀ i (h : i < kids.length) (h' : i < uss.length), NodeRep I uss[i] kids[i]) → NodeRep I (up ++ [.int .i64 op, v]) (.mk p op kids)

theorem RSl.one {α : Type} {T : Ty α} {I : CM} {v : Value} {l : List α} (h : RSl T I v l) : v.oneCell' = true := by
  obtain ⟨A, n, c, rfl, _⟩ := h; rfl

def Ty_Node : Ty TNode where
  n := 8
  rep := NodeRep
  len h := by cases h with | mk up p op v kids uss h1 h2 h3 h4 h5 => have := Ty_api_Pred.len h1; simp at this ⊢; omega
  mono hle h := by
    induction h with
    | mk up p op v kids uss h1 h2 h3 h4 h5 ih => exact .mk up p op v kids uss (Ty_api_Pred.mono hle h1) h2 (h3.mono hle) h4 ih
  one h u hu := by
    cases h with
    | mk up p op v kids uss h1 h2 h3 h4 h5 =>
      rcases List.mem_append.1 hu with hu | hu
      · exact Ty_api_Pred.one h1 u hu
      · simp at hu; rcases hu with rfl | rfl
        · rfl
        · exact RSl.one h3
@[simp] theorem Ty_Node_n : Ty_Node.n = 8 := rfl

theorem node_open {I : CM} {us : List Value} {p : D_api_Pred} {op : Int} {kids : List TNode} (h : Ty_Node.rep I us (.mk p op kids)) :
    ∃ up v, us = up ++ [.int .i64 op, v] ∧ Ty_api_Pred.rep I up p ∧ (-9223372036854775808 ≤ op ∧ op ≤ 9223372036854775807) ∧ RSl Ty_Node I v kids := by
  cases h with
  | mk up p op v kids uss h1 h2 h3 h4 h5 =>
    refine ⟨up, v, rfl, h1, h2, ?_⟩
    obtain ⟨A, n, c, rfl, hn, hc, hc', hc2, hh⟩ := h3
    refine ⟨A, n, c, rfl, by omega, hc, hc', hc2, fun h0 => ?_⟩
    obtain ⟨b, o, hA, hh⟩ := hh h0
    refine ⟨b, o, hA, fun i hi => ?_⟩
    obtain ⟨us, hu, he, _⟩ := hh i (by omega)
    subst he
    exact ⟨_, hu, h5 i hi (by omega)⟩

theorem node_mk {I : CM} {up : List Value} {v : Value} {p : D_api_Pred} {op : Int} {kids : List TNode} (h1 : Ty_api_Pred.rep I up p) (h2 : -9223372036854775808 ≤ op ∧ op ≤ 9223372036854775807) (h3 : RSl Ty_Node I v kids) : Ty_Node.rep I (up ++ [.int .i64 op, v]) (.mk p op kids) := by
  obtain ⟨A, n, c, rfl, hn, hc, hc', hc2, hh⟩ := h3
  by_cases h0 : n = 0
  · have : kids = [] := List.eq_nil_of_length_eq_zero (by omega)
    subst this
    exact .mk up p op _ [] [] h1 h2 ⟨A, n, c, rfl, by simpa using hn, hc, hc', hc2, fun h => absurd h0 h⟩ rfl (fun i h => by simp at h)
  · obtain ⟨b, o, hA, hh⟩ := hh h0
    obtain ⟨uss, e1, e2⟩ := L.exists_list (Q := fun i (us : List Value) => (∀ j (hj : j < us.length), I b (o + i * Ty_Node.n + j) = some us[j]) ∧ ∃ h : i < kids.length, Ty_Node.rep I us kids[i]) kids.length (fun i hi => by
      obtain ⟨us, h, h'⟩ := hh i hi; exact ⟨us, h, hi, h'⟩)
    refine .mk up p op _ kids uss h1 h2 ⟨A, n, c, rfl, by omega, hc, hc', hc2, fun _ => ⟨b, o, hA, fun i hi => ⟨uss[i], (e2 i hi).1, rfl, ?_, ?_⟩⟩⟩ e1 (fun i h h' => (e2 i h').2.2)
    · exact Ty_Node.len (e2 i hi).2.2
    · exact Ty_Node.one (e2 i hi).2.2

theorem pred_lit {I : CM} {us : List Value} {p : D_api_Pred} (h : Ty_api_Pred.rep I us p) : ∃ v2 v3, us = [.int .i64 p.kind, .string p.attr, v2, v3, .int .i64 p.lo, .int .i64 p.hi] ∧ RSl Ty.int I v2 p.ints ∧ RSl Ty.str I v3 p.words := by
  obtain ⟨v2, v3, h0, -, -, h2, h3, -, -⟩ := h
  exact ⟨v2, v3, h0, h2, h3⟩

/-- bounds that every tree of a bounded bulk keeps -/
inductive Fine : TNode → Prop
  | mk (p : D_api_Pred) (op : Int) (kids : List TNode) : p.ints.length ≤ 1048576 → p.words.length ≤ 1048576 → kids.length ≤ 1048576 → (∀ i (h : i < kids.length), Fine kids[i]) → Fine (.mk p op kids)

section
variable {c : World} {I : CM} {F : Hp} {As : List HP} {w : World}

theorem t_CloneInts (v : Value) (l : List Int) (hs : St c I F As w) (hv : RS Ty.int (Rd I F) I v l) (hl : l.length ≤ 1048576) :
    Calls Tryd.prog i_slices_Clone_int_int #[v] w (callR (fun r w' => ∃ J, Gr F I J ∧ RSl Ty.int J r l ∧ St c J F As w') noP) := by
  obtain ⟨A, cp, hve, hcp, hcp', hlen⟩ := hv.parts
  rw [hve] at hv ⊢
  refine c_slices_Clone_int_int ?_
  unfold n_slices_Clone_int_int
  refine rEqlNil ?_
  cases A with
  | none =>
    have : l = [] := by
      obtain ⟨A', n, c', he, hn, _, _, _, hh⟩ := hv
      cases he
      by_cases h0 : l.length = 0
      · exact List.eq_nil_of_length_eq_zero h0
      · obtain ⟨b, o, hb, _⟩ := hh (by omega); cases hb
    subst this
    exact rTrue ⟨I, Gr.refl _ _, RSl.nil _ _, hs⟩
  | some a =>
    refine rFalse <| rBuildS0S hs Ty.int ?_; clear hs
    intro v1 w hs
    refine rAppS hs hv rfl (by rfl) (by decide) (by simp; omega) (by decide) ?_; clear hs
    intro v2 w hs
    rw [List.nil_append] at hs
    obtain ⟨J, hJ, hr, hs⟩ := hs.lastSl (by omega)
    exact ⟨J, hJ, hr, hs⟩

theorem t_CloneStrs (v : Value) (l : List ByteArray) (hs : St c I F As w) (hv : RS Ty.str (Rd I F) I v l) (hl : l.length ≤ 1048576) :
    Calls Tryd.prog i_slices_Clone_string_string #[v] w (callR (fun r w' => ∃ J, Gr F I J ∧ RSl Ty.str J r l ∧ St c J F As w') noP) := by
  obtain ⟨A, cp, hve, hcp, hcp', hlen⟩ := hv.parts
  rw [hve] at hv ⊢
  refine c_slices_Clone_string_string ?_
  unfold n_slices_Clone_string_string
  refine rEqlNil ?_
  cases A with
  | none =>
    have : l = [] := by
      obtain ⟨A', n, c', he, hn, _, _, _, hh⟩ := hv
      cases he
      by_cases h0 : l.length = 0
      · exact List.eq_nil_of_length_eq_zero h0
      · obtain ⟨b, o, hb, _⟩ := hh (by omega); cases hb
    subst this
    exact rTrue ⟨I, Gr.refl _ _, RSl.nil _ _, hs⟩
  | some a =>
    refine rFalse <| rBuildS0S hs Ty.str ?_; clear hs
    intro v1 w hs
    refine rAppS hs hv rfl (by rfl) (by decide) (by simp; omega) (by decide) ?_; clear hs
    intro v2 w hs
    rw [List.nil_append] at hs
    obtain ⟨J, hJ, hr, hs⟩ := hs.lastSl (by omega)
    exact ⟨J, hJ, hr, hs⟩
end
end Go.Proofs.YtlbihkgfejgefaaDoor
