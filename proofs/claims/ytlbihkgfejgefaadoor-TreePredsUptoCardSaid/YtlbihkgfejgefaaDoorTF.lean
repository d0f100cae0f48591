/- trees copied; the builders. -/
import Derived.Test.YtlbihkgfejgefaaDoorTE
import Derived.Test.YtlbihkgfejgefaaDoorN1
namespace Go.Proofs.YtlbihkgfejgefaaDoor
open Go L
set_option linter.unusedVariables false

def CopySpec (t : TNode) : Prop := ∀ (c : World) (I : CM) (F : Hp) (As : List HP) (w : World) (us : List Value), St c I F As w → Ty_Node.rep (Rd I F) us t →
  Calls Tryd.prog i_tree_copied #[.agg us.toArray] w (callR (fun r w' => ∃ J vs, r = .agg vs.toArray ∧ Gr F I J ∧ Ty_Node.rep J vs t ∧ St c J F As w') noP)

abbrev zNode : List Value := [.int .i64 0, .string ⟨#[]⟩, .slice none 0 0, .slice none 0 0, .int .i64 0, .int .i64 0, .int .i64 0, .slice none 0 0]

theorem node_lit {I : CM} {us : List Value} {t : TNode} (h : Ty_Node.rep I us t) : ∃ a0 a1 a2 a3 a4 a5 a6 a7, us = [a0, a1, a2, a3, a4, a5, a6, a7] := by
  have := Ty_Node.len h
  match us, this with
  | [a0, a1, a2, a3, a4, a5, a6, a7], _ => exact ⟨_, _, _, _, _, _, _, _, rfl⟩

section
variable {c : World} {I : CM} {F : Hp} {As : List HP} {w : World}

set_option maxHeartbeats 1000000 in
theorem t_copies_of (v : Value) (kids : List TNode) (ih : ∀ i (h : i < kids.length), CopySpec kids[i]) (hl : kids.length ≤ 1048576) (hs : St c I F As w) (hv : RSl Ty_Node (Rd I F) v kids) :
    Calls Tryd.prog i_tree_copies #[v] w (callR (fun r w' => ∃ J, Gr F I J ∧ RSl Ty_Node J r kids ∧ St c J F As w') noP) := by
  obtain ⟨A, cp, hve, hcp, hcp', hlen⟩ := hv.rs.parts
  rw [hve] at hv ⊢
  refine c_tree_copies ?_
  unfold n_tree_copies
  refine rLen ?_
  refine rLoop2 (fun x y w' => ∃ (k : Nat) (J : CM), y = .int .i64 k ∧ k ≤ kids.length ∧ Gr F I J ∧ St c J F (OwnSl Ty_Node T_api_Node x (kids.take k) :: As) w') (fun _ y _ => match y with | .int _ k => kids.length - k.toNat | _ => 0) ⟨0, I, rfl, Nat.zero_le _, Gr.refl _ _, hs.ownNil _ _⟩ ?_
  clear hs
  rintro f w ag hag ⟨k, J, hk, hkl, hJ, hs⟩
  generalize f 3 = x at hs ⊢
  simp only [hk] at hag ⊢
  refine cLss (fun hlt => ?_) (fun hge => ?_)
  · have hkl : k < kids.length := by omega
    obtain ⟨b, o, us, hA, hu, hrep, hul⟩ := (hv.mono hJ.rd).rs.at (i := k) hkl
    have hul' : us.length = 8 := hul
    refine rTrue ?_
    rw [hA]
    refine rIA (by omega) (by omega) <| rLoadN us hul' (fun j hj => by have := hs.rdCell (hu j hj); simpa [Nat.mul_comm] using this) ?_
    refine rAllocS hs zNode rfl ?_; clear hs
    intro g w hs
    refine rStNS hs hul' (by simp [hul']) (Ty_Node.one hrep) ?_; clear hs
    intro w hs
    have e : zNode.take 0 ++ us ++ zNode.drop (0 + us.length) = us := by rw [hul']; simp
    rw [e] at hs
    refine rLdNS hs hul' ?_
    have hC := ih k hkl c J F _ w us hs hrep
    refine rCall hC ?_; clear hC hs
    rintro _ w ⟨J2, vs, rfl, hJ2, hr2, hs⟩
    have hlit := node_lit hr2
    refine rBuildSS hs vs (by decide) (by obtain ⟨a0, a1, a2, a3, a4, a5, a6, a7, rfl⟩ := hlit; kernel_rfl) ?_; clear hs
    intro g2 w hs
    refine rApp1 (x := kids[k]) hs.p2.p1 hr2 rfl (by rfl) (by decide) (by rw [List.length_take]; omega) (by decide) ?_; clear hs
    intro v' w hs
    refine rAdd (by omega) (by omega) <| hag _ _ _ ⟨k + 1, J2, by simp, by omega, hJ.trans hJ2, ?_⟩ (by dsimp only; omega)
    rw [List.take_succ_eq_append_getElem hkl]
    exact hs.p1.drop
  · have : k = kids.length := by omega
    subst this
    rw [List.take_length] at hs
    obtain ⟨J2, hJ2, hr, hs⟩ := hs.lastSl (by omega)
    exact rFalse ⟨J2, hJ.trans hJ2, hr, hs⟩

set_option maxHeartbeats 1000000 in
theorem t_copied_of (p : D_api_Pred) (op : Int) (kids : List TNode) (ih : ∀ i (h : i < kids.length), CopySpec kids[i]) (h1 : p.ints.length ≤ 1048576) (h2 : p.words.length ≤ 1048576) (h3 : kids.length ≤ 1048576) : CopySpec (.mk p op kids) := by
  intro c I F As w us hs hn
  obtain ⟨up, vk, hus, hp, hop, hk⟩ := node_open hn
  subst hus
  have hp0 := hp
  obtain ⟨v2, v3, hup, k0, k1, k2, k3, k4, k5⟩ := hp
  subst hup
  refine c_tree_copied ?_
  unfold n_tree_copied
  refine rBoxS hs [.int .i64 p.kind, .string p.attr, v2, v3, .int .i64 p.lo, .int .i64 p.hi, .int .i64 op, vk] rfl ?_; clear hs
  intro g1 w hs
  refine rAllocS hs zNode rfl ?_; clear hs
  intro g2 w hs
  have hs := hs.drew
  refine ⟨fun w1 => w1.cell? ⟨g1, 2, none⟩ = some v2 ∧ w1.cell? ⟨g1, 3, none⟩ = some v3, ⟨hs.p1.cell 2, hs.p1.cell 3⟩, ?_⟩
  refine rFA <| rFA <| rHL (fun w1 h1 => h1.1) ?_
  have hC := t_CloneInts _ _ hs (RS.flat flat_int k2.rs) h1
  refine rCall hC ?_; clear hC hs
  rintro r2 w ⟨J, hJ, hr2, hs⟩
  refine ⟨⟨hs.p1.cell 2, hs.p1.cell 3⟩, ?_⟩
  refine rFA <| rFA <| rHL (fun w1 h1 => h1.2) ?_
  have hC := t_CloneStrs _ _ hs (RS.flat flat_str (k3.mono hJ.rd).rs) h2
  refine rCall hC ?_; clear hC hs
  rintro r3 w ⟨J2, hJ2, hr3, hs⟩
  refine rFA <| rFA <| rStS hs.p1 (by simp) (RSl.one hr2) ?_; clear hs
  intro w hs
  refine rFA <| rFA <| rStS hs (by simp) (RSl.one hr3) ?_; clear hs
  intro w hs
  refine rFA <| rLdS hs rfl ?_
  have hC := t_copies_of vk kids ih h3 hs (hk.mono (hJ.trans hJ2).rd)
  refine rCall hC ?_; clear hC hs
  rintro r4 w ⟨J3, hJ3, hr4, hs⟩
  refine rFA <| rStS hs (by simp) (RSl.one hr4) ?_; clear hs
  intro w hs
  refine rLdNS hs rfl ?_
  have hone : ∀ v ∈ [Value.int .i64 p.kind, .string p.attr, r2, r3, .int .i64 p.lo, .int .i64 p.hi, .int .i64 op, r4], v.oneCell' = true := by
    intro v hv; simp at hv; rcases hv with rfl | rfl | rfl | rfl | rfl | rfl | rfl | rfl
    all_goals first | rfl | exact RSl.one hr2 | exact RSl.one hr3 | exact RSl.one hr4
  refine rStNS hs.p1 rfl (by simp) hone ?_; clear hs
  intro w hs
  refine rRLNS hs rfl ?_
  refine ⟨J3, _, rfl, (hJ.trans hJ2).trans hJ3, ?_, hs.drop.drop⟩
  exact node_mk (up := [.int .i64 p.kind, .string p.attr, r2, r3, .int .i64 p.lo, .int .i64 p.hi]) ⟨r2, r3, rfl, k0, k1, hr2.mono (hJ2.trans hJ3).le, hr3.mono hJ3.le, k4, k5⟩ hop hr4

theorem t_copied {t : TNode} (h : Fine t) : CopySpec t := by
  induction h with
  | mk p op kids h1 h2 h3 h4 ih => exact t_copied_of p op kids ih h1 h2 h3

theorem t_copies (v : Value) (kids : List TNode) (hf : ∀ i (h : i < kids.length), Fine kids[i]) (hl : kids.length ≤ 1048576) (hs : St c I F As w) (hv : RSl Ty_Node (Rd I F) v kids) :
    Calls Tryd.prog i_tree_copies #[v] w (callR (fun r w' => ∃ J, Gr F I J ∧ RSl Ty_Node J r kids ∧ St c J F As w') noP) :=
  t_copies_of v kids (fun i h => t_copied (hf i h)) hl hs hv
end
end Go.Proofs.YtlbihkgfejgefaaDoor
