/- the builders of trees. -/
import Derived.Test.YtlbihkgfejgefaaDoorTF
namespace Go.Proofs.YtlbihkgfejgefaaDoor
open Go L
set_option linter.unusedVariables false

def zPred : D_api_Pred := ⟨0, ⟨#[]⟩, [], [], 0, 0⟩
def zTree : TNode := .mk zPred 0 []
def joinN (op : Int) : List TNode → TNode
  | [] => zTree
  | [k] => k
  | kids => .mk zPred op kids
theorem zPred_rep (I : CM) : Ty_api_Pred.rep I [.int .i64 0, .string ⟨#[]⟩, .slice none 0 0, .slice none 0 0, .int .i64 0, .int .i64 0] zPred :=
  ⟨_, _, rfl, ⟨by decide, by decide⟩, by decide, RSl.nil _ _, RSl.nil _ _, ⟨by decide, by decide⟩, ⟨by decide, by decide⟩⟩
theorem zTree_rep (I : CM) : Ty_Node.rep I zNode zTree := node_mk (zPred_rep I) ⟨by decide, by decide⟩ (RSl.nil _ _)

section
variable {c : World} {I : CM} {F : Hp} {As : List HP} {w : World}

abbrev RNode (c : World) (I : CM) (F : Hp) (As : List HP) (t : TNode) : VK := fun r w' => ∃ J vs, r = .agg vs.toArray ∧ Gr F I J ∧ Ty_Node.rep J vs t ∧ St c J F As w'

theorem rRet {R : VK} {Kp : PK} {g : Nat} {vs cs : List Value} {t : TNode} {E : Nat} (hs : St c I F (Cells g cs E :: As) w) (hc : cs.length = 8) (hr : Ty_Node.rep I vs t) (hk : ∀ w', St c I F As w' → R (.agg vs.toArray) w') :
    oStore Tryd.prog T_api_Node (.pointer (some ⟨g, 0, none⟩)) (.agg vs.toArray) Kp w fun _t w => oRL Tryd.prog T_api_Node (.pointer (some ⟨g, 0, none⟩)) w fun r0 => R r0 w := by
  have hl : vs.length = 8 := Ty_Node.len hr
  refine rStNS hs hl (by omega) (Ty_Node.one hr) ?_; clear hs
  intro w hs
  have e : cs.take 0 ++ vs ++ cs.drop (0 + vs.length) = vs := by rw [hl, List.drop_eq_nil_of_le (by omega)]; simp
  rw [e] at hs
  exact rRLNS hs hl (hk _ hs.drop)

theorem t_leaf (us : List Value) (p : D_api_Pred) (hs : St c I F As w) (hp : Ty_api_Pred.rep (Rd I F) us p) (h1 : p.ints.length ≤ 1048576) (h2 : p.words.length ≤ 1048576) :
    Calls Tryd.prog i_tree_leaf #[.agg us.toArray] w (callR (RNode c I F As (.mk p 1 [])) noP) := by
  have hp0 := hp
  obtain ⟨v2, v3, hus, -, -, -, -, -, -⟩ := hp
  subst hus
  refine c_tree_leaf ?_
  unfold n_tree_leaf
  refine rBoxS hs _ rfl ?_; clear hs
  intro g1 w hs
  refine rAllocS hs zNode rfl ?_; clear hs
  intro g2 w hs
  refine rLdNS hs.p1 rfl ?_
  refine rBuild [.int .i64 p.kind, .string p.attr, v2, v3, .int .i64 p.lo, .int .i64 p.hi, .int .i64 1, .slice none 0 0] (by kernel_rfl) ?_
  have hC := t_copied (.mk p 1 [] h1 h2 (by decide) (fun i h => by simp at h)) c I F _ w _ hs (node_mk (up := [.int .i64 p.kind, .string p.attr, v2, v3, .int .i64 p.lo, .int .i64 p.hi]) (op := 1) hp0 ⟨by decide, by decide⟩ (RSl.nil _ _))
  refine rCall hC ?_; clear hC hs
  rintro _ w ⟨J, vs, rfl, hJ, hr, hs⟩
  exact rRet hs rfl hr fun w' h => ⟨J, vs, rfl, hJ, hr, h.drop⟩

theorem t_Ints (attr : ByteArray) (v : Value) (l : List Int) (ha : attr.size ≤ 140737488355328) (hv : RSl Ty.int (Rd I F) v l) (hl : l.length ≤ 1048576) (hs : St c I F As w) :
    Calls Tryd.prog i_tree_Ints #[.string attr, v] w (callR (RNode c I F As (.mk ⟨1, attr, l, [], 0, 0⟩ 1 [])) noP) := by
  refine c_tree_Ints ?_
  unfold n_tree_Ints
  refine rAllocS hs zNode rfl ?_; clear hs
  intro g w hs
  obtain ⟨A, cp, hve, -⟩ := hv.rs.parts
  rw [hve] at hv ⊢
  refine rBuild [.int .i64 1, .string attr, .slice A l.length cp, .slice none 0 0, .int .i64 0, .int .i64 0] (by kernel_rfl) ?_
  have hC := t_leaf [.int .i64 1, .string attr, .slice A l.length cp, .slice none 0 0, .int .i64 0, .int .i64 0] ⟨1, attr, l, [], 0, 0⟩ hs ⟨_, _, rfl, ⟨by simp, by simp⟩, ha, hv, RSl.nil _ _, ⟨by simp, by simp⟩, ⟨by simp, by simp⟩⟩ hl (by simp)
  refine rCall hC ?_; clear hC hs
  rintro _ w ⟨J, vs, rfl, hJ, hr, hs⟩
  exact rRet hs rfl hr fun w' h => ⟨J, vs, rfl, hJ, hr, h⟩

theorem t_Words (attr : ByteArray) (v : Value) (l : List ByteArray) (ha : attr.size ≤ 140737488355328) (hv : RSl Ty.str (Rd I F) v l) (hl : l.length ≤ 1048576) (hs : St c I F As w) :
    Calls Tryd.prog i_tree_Words #[.string attr, v] w (callR (RNode c I F As (.mk ⟨2, attr, [], l, 0, 0⟩ 1 [])) noP) := by
  refine c_tree_Words ?_
  unfold n_tree_Words
  refine rAllocS hs zNode rfl ?_; clear hs
  intro g w hs
  obtain ⟨A, cp, hve, -⟩ := hv.rs.parts
  rw [hve] at hv ⊢
  refine rBuild [.int .i64 2, .string attr, .slice none 0 0, .slice A l.length cp, .int .i64 0, .int .i64 0] (by kernel_rfl) ?_
  have hC := t_leaf [.int .i64 2, .string attr, .slice none 0 0, .slice A l.length cp, .int .i64 0, .int .i64 0] ⟨2, attr, [], l, 0, 0⟩ hs ⟨_, _, rfl, ⟨by simp, by simp⟩, ha, RSl.nil _ _, hv, ⟨by simp, by simp⟩, ⟨by simp, by simp⟩⟩ (by simp) hl
  refine rCall hC ?_; clear hC hs
  rintro _ w ⟨J, vs, rfl, hJ, hr, hs⟩
  exact rRet hs rfl hr fun w' h => ⟨J, vs, rfl, hJ, hr, h⟩

theorem t_Range (attr : ByteArray) (lo hi : Int) (ha : attr.size ≤ 140737488355328) (h1 : -9223372036854775808 ≤ lo ∧ lo ≤ 9223372036854775807) (h2 : -9223372036854775808 ≤ hi ∧ hi ≤ 9223372036854775807) (hs : St c I F As w) :
    Calls Tryd.prog i_tree_Range #[.string attr, .int .i64 lo, .int .i64 hi] w (callR (RNode c I F As (.mk ⟨3, attr, [], [], lo, hi⟩ 1 [])) noP) := by
  refine c_tree_Range ?_
  unfold n_tree_Range
  refine rAllocS hs zNode rfl ?_; clear hs
  intro g w hs
  refine rBuild [.int .i64 3, .string attr, .slice none 0 0, .slice none 0 0, .int .i64 lo, .int .i64 hi] (by kernel_rfl) ?_
  have hC := t_leaf [.int .i64 3, .string attr, .slice none 0 0, .slice none 0 0, .int .i64 lo, .int .i64 hi] ⟨3, attr, [], [], lo, hi⟩ hs ⟨_, _, rfl, ⟨by simp, by simp⟩, ha, RSl.nil _ _, RSl.nil _ _, h1, h2⟩ (by simp) (by simp)
  refine rCall hC ?_; clear hC hs
  rintro _ w ⟨J, vs, rfl, hJ, hr, hs⟩
  exact rRet hs rfl hr fun w' h => ⟨J, vs, rfl, hJ, hr, h⟩

theorem t_Prefix (attr : ByteArray) (x : ByteArray) (ha : attr.size ≤ 140737488355328) (hx : x.size ≤ 140737488355328) (hs : St c I F As w) :
    Calls Tryd.prog i_tree_Prefix #[.string attr, .string x] w (callR (RNode c I F As (.mk ⟨4, attr, [], [x], 0, 0⟩ 1 [])) noP) := by
  refine c_tree_Prefix ?_
  unfold n_tree_Prefix
  refine rAllocS hs zNode rfl ?_; clear hs
  intro g w hs
  refine rBuildSS hs [.string x] (by decide) (by kernel_rfl) ?_; clear hs
  intro g3 w hs
  obtain ⟨J0, hJ0, hr3, hs⟩ := hs.strs (l := [x]) (by simpa using hx) (by simp) 1 rfl
  refine rBuild [.int .i64 4, .string attr, .slice none 0 0, .slice (some ⟨g3, 0, none⟩) 1 1, .int .i64 0, .int .i64 0] (by kernel_rfl) ?_
  have hC := t_leaf [.int .i64 4, .string attr, .slice none 0 0, .slice (some ⟨g3, 0, none⟩) 1 1, .int .i64 0, .int .i64 0] ⟨4, attr, [], [x], 0, 0⟩ hs ⟨_, _, rfl, ⟨by simp, by simp⟩, ha, RSl.nil _ _, (hr3.mono (CM.le_rd _ _)), ⟨by simp, by simp⟩, ⟨by simp, by simp⟩⟩ (by simp) (by simp)
  refine rCall hC ?_; clear hC hs
  rintro _ w ⟨J, vs, rfl, hJ, hr, hs⟩
  exact rRet hs rfl hr fun w' h => ⟨J, vs, rfl, hJ0.trans hJ, hr, h⟩

theorem fill_op {op : Int} {v : Value} : True := trivial

theorem t_joined (op : Int) (v : Value) (kids : List TNode) (hop : -9223372036854775808 ≤ op ∧ op ≤ 9223372036854775807) (hf : ∀ i (h : i < kids.length), Fine kids[i]) (hl : kids.length ≤ 1048576) (hs : St c I F As w) (hv : RSl Ty_Node (Rd I F) v kids) :
    Calls Tryd.prog i_tree_joined #[.int .i64 op, v] w (callR (RNode c I F As (joinN op kids)) noP) := by
  have hv0 := hv
  obtain ⟨A, cp, hve, hcp, hcp', hlen⟩ := hv.rs.parts
  rw [hve] at hv hv0 ⊢
  refine c_tree_joined ?_
  unfold n_tree_joined
  refine rAllocS hs zNode rfl ?_; clear hs
  intro g w hs
  refine rLen <| cEql (fun h0 => ?_) (fun h0 => ?_)
  · have : kids = [] := List.eq_nil_of_length_eq_zero (by omega)
    subst this
    refine rTrue <| rBuild zNode (by kernel_rfl) ?_
    exact rRet hs rfl (zTree_rep I) fun w' h => ⟨I, _, rfl, Gr.refl _ _, zTree_rep I, h⟩
  refine rFalse <| cEql (fun h1 => ?_) (fun h1 => ?_)
  · obtain ⟨k, rfl⟩ : ∃ k, kids = [k] := by
      match kids, h1 with
      | [k], _ => exact ⟨k, rfl⟩
    obtain ⟨b, o, us, hA, hu, hrep, hul⟩ := hv.rs.at (i := 0) (by simp)
    refine rTrue ?_
    rw [hA]
    refine rIA (by decide) (by simp) <| rLoadN us hul (fun j hj => by have := hs.rdCell (hu j hj); simpa using this) ?_
    have hC := t_copied (hf 0 (by simp)) c I F _ w us hs hrep
    refine rCall hC ?_; clear hC hs
    rintro _ w ⟨J, vs, rfl, hJ, hr, hs⟩
    exact rRet hs rfl hr fun w' h => ⟨J, vs, rfl, hJ, hr, h⟩
  · have hj : joinN op kids = .mk zPred op kids := by
      match kids, h0, h1 with
      | [], h0, _ => exact absurd rfl h0
      | [k], _, h1 => exact absurd rfl h1
      | a :: b :: r, _, _ => rfl
    rw [hj]
    have hC := t_copies _ kids hf hl hs hv0
    refine rFalse <| rCall hC ?_; clear hC hs
    rintro r w ⟨J, hJ, hr, hs⟩
    have hn := node_mk (zPred_rep J) hop hr
    refine rBuild [.int .i64 0, .string ⟨#[]⟩, .slice none 0 0, .slice none 0 0, .int .i64 0, .int .i64 0, .int .i64 op, r] (by obtain ⟨A, n, c, rfl, _⟩ := hr; kernel_rfl) ?_
    exact rRet hs rfl hn fun w' h => ⟨J, _, rfl, hJ, hn, h⟩

theorem t_And (v : Value) (kids : List TNode) (hf : ∀ i (h : i < kids.length), Fine kids[i]) (hl : kids.length ≤ 1048576) (hs : St c I F As w) (hv : RSl Ty_Node (Rd I F) v kids) :
    Calls Tryd.prog i_tree_And #[v] w (callR (RNode c I F As (joinN 3 kids)) noP) := by
  refine c_tree_And ?_
  unfold n_tree_And
  refine rAllocS hs zNode rfl ?_; clear hs
  intro g w hs
  have hC := t_joined 3 v kids ⟨by decide, by decide⟩ hf hl hs hv
  refine rCall hC ?_; clear hC hs
  rintro _ w ⟨J, vs, rfl, hJ, hr, hs⟩
  exact rRet hs rfl hr fun w' h => ⟨J, vs, rfl, hJ, hr, h⟩

theorem t_Or (v : Value) (kids : List TNode) (hf : ∀ i (h : i < kids.length), Fine kids[i]) (hl : kids.length ≤ 1048576) (hs : St c I F As w) (hv : RSl Ty_Node (Rd I F) v kids) :
    Calls Tryd.prog i_tree_Or #[v] w (callR (RNode c I F As (joinN 4 kids)) noP) := by
  refine c_tree_Or ?_
  unfold n_tree_Or
  refine rAllocS hs zNode rfl ?_; clear hs
  intro g w hs
  have hC := t_joined 4 v kids ⟨by decide, by decide⟩ hf hl hs hv
  refine rCall hC ?_; clear hC hs
  rintro _ w ⟨J, vs, rfl, hJ, hr, hs⟩
  exact rRet hs rfl hr fun w' h => ⟨J, vs, rfl, hJ, hr, h⟩

/-- a struct of one's own, lent as a list of one -/
theorem lendOne {g : Nat} {us : List Value} {t : TNode} {E : Nat} (hs : St c I F (Cells g us E :: As) w) (hr : Ty_Node.rep (Rd I F) us t) : ∃ F', (∀ b x, F b = some x → F' b = some x) ∧ RSl Ty_Node (Rd I F') (.slice (some ⟨g, 0, none⟩) 1 1) [t] ∧ St c I F' As w ∧
    (∀ J Bs w', Gr F' I J → St c J F' Bs w' → Gr F I J ∧ St c J F (Cells g us E :: Bs) w') := by
  obtain ⟨F', h1, ⟨hA, a, h2, h3⟩, h4, h5⟩ := hs.lend
  refine ⟨F', h1, ⟨some ⟨g, 0, none⟩, 1, 1, rfl, rfl, Nat.le_refl _, by decide, by decide, fun _ => ⟨g, 0, rfl, fun i hi => ?_⟩⟩, h4, h5⟩
  have : i = 0 := by simp at hi; omega
  subst this
  refine ⟨us, fun j hj => ?_, Ty_Node.mono (Rd.le h1) hr⟩
  have ha : hA = Hp.one g (.cells us.toArray E (0, 0)) := a
  have hg : hA g = some (.cells us.toArray E (0, 0)) := by rw [ha]; exact Hp.one_self _ _
  unfold Rd CM.add
  rw [h3 g (by rw [hg]; simp)]
  unfold Hp.cells
  rw [h2 _ _ hg]
  simp [hj]

theorem t_Not (us : List Value) (t : TNode) (hf : Fine t) (hs : St c I F As w) (hr : Ty_Node.rep (Rd I F) us t) :
    Calls Tryd.prog i_tree_Not #[.agg us.toArray] w (callR (RNode c I F As (.mk zPred 2 [t])) noP) := by
  have hl : us.length = 8 := Ty_Node.len hr
  obtain ⟨a0, a1, a2, a3, a4, a5, a6, a7, hus⟩ := node_lit hr
  refine c_tree_Not ?_
  unfold n_tree_Not
  refine rBoxS hs us rfl ?_; clear hs
  intro g1 w hs
  refine rAllocS hs zNode rfl ?_; clear hs
  intro g2 w hs
  refine rLdNS hs.p1 hl <| rBuildSS hs us (by decide) (by rw [hus]; kernel_rfl) ?_; clear hs
  intro g3 w hs
  obtain ⟨F', hF, hv, hs', back⟩ := lendOne hs hr
  have hC := t_copies _ [t] (fun i h => by have : i = 0 := by simp at h; omega
                                           subst this; exact hf) (by simp) hs' hv
  refine rCall hC ?_; clear hC hs hs'
  rintro r w ⟨J, hJ, hr2, hs⟩
  obtain ⟨hJ2, hs⟩ := back _ _ _ hJ hs
  have hn := node_mk (op := 2) (zPred_rep J) ⟨by decide, by decide⟩ hr2
  refine rBuild [.int .i64 0, .string ⟨#[]⟩, .slice none 0 0, .slice none 0 0, .int .i64 0, .int .i64 0, .int .i64 2, r] (by obtain ⟨A, n, c, rfl, _⟩ := hr2; kernel_rfl) ?_
  exact rRet hs.p1 rfl hn fun w' h => ⟨J, _, rfl, hJ2, hn, h.drop.drop⟩
end
end Go.Proofs.YtlbihkgfejgefaaDoor
