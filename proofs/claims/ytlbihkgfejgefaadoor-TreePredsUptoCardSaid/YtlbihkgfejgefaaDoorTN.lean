/- fixed() of layer 4. -/
import Derived.Test.YtlbihkgfejgefaaDoorTM
namespace Go.Proofs.YtlbihkgfejgefaaDoor
open Go L
set_option linter.unusedVariables false

section
variable {c : World} {I : CM} {F : Hp} {As : List HP} {w : World}

set_option maxHeartbeats 2000000 in
theorem t_fixed (hT : PowT F) (hs : St c I F As w) : Calls Tryd.prog i_trommellaw04_fixed #[] w (callR (fun r w' => ∃ J, r = .bool true ∧ Gr F I J ∧ St c J F As w') noP) := by
  refine c_trommellaw04_fixed ?_
  unfold n_trommellaw04_fixed
  refine rBuildSS hs [.int .i64 1, .int .i64 (-2)] (by decide) (by kernel_rfl) ?_; clear hs
  intro g1 w hs
  obtain ⟨J1, hJ1, hr1, hs⟩ := hs.ints (l := [1, -2]) (by simp) (by simp) 2 rfl
  have hC := t_Ints ⟨#[97]⟩ _ [1, -2] (by decide) (hr1.mono (CM.le_rd _ _)) (by simp) hs
  refine rCall hC ?_; clear hC hs
  rintro _ w ⟨J2, us1, rfl, hJ2, hn1, hs⟩
  have hC := t_Range ⟨#[97]⟩ 5 3 (by decide) ⟨by decide, by decide⟩ ⟨by decide, by decide⟩ hs
  refine rCall hC ?_; clear hC hs
  rintro _ w ⟨J3, us2, rfl, hJ3, hn2, hs⟩
  have l1 := node_lit hn1
  have l2 := node_lit hn2
  refine rBuildSS hs [us1, us2].flatten (by decide) (by obtain ⟨_, _, _, _, _, _, _, _, rfl⟩ := l1; obtain ⟨_, _, _, _, _, _, _, _, rfl⟩ := l2; kernel_rfl) ?_; clear hs
  intro g2 w hs
  obtain ⟨J4, hJ4, hv4, hs⟩ := hs.nodes (l := [nA, nB]) 2 rfl rfl (fun i h h' => match i, h with | 0, _ => Ty_Node.mono hJ3.le hn1 | 1, _ => hn2) (by simp)
  have hC := t_Or _ [nA, nB] (fine_kids (by intro x hx; simp at hx; rcases hx with rfl | rfl; exact fine_A; exact fine_B)) (by simp) hs (hv4.mono (CM.le_rd _ _))
  refine rCall hC ?_; clear hC hs
  rintro _ w ⟨J5, us3, rfl, hJ5, hn3, hs⟩
  have hC := t_Prefix ⟨#[99]⟩ ⟨#[120]⟩ (by decide) (by decide) hs
  refine rCall hC ?_; clear hC hs
  rintro _ w ⟨J6, us4, rfl, hJ6, hn4, hs⟩
  have hC := t_Not us4 nC fine_C hs (Ty_Node.mono (CM.le_rd _ _) hn4)
  refine rCall hC ?_; clear hC hs
  rintro _ w ⟨J7, us5, rfl, hJ7, hn5, hs⟩
  refine rBuildSS hs [.string ⟨#[121]⟩] (by decide) (by kernel_rfl) ?_; clear hs
  intro g3 w hs
  obtain ⟨J8, hJ8, hr8, hs⟩ := hs.strs (l := [⟨#[121]⟩]) (by intro x hx; simp at hx; subst hx; decide) (by simp) 1 rfl
  have hC := t_Words ⟨#[99]⟩ _ [⟨#[121]⟩] (by decide) (hr8.mono (CM.le_rd _ _)) (by simp) hs
  refine rCall hC ?_; clear hC hs
  rintro _ w ⟨J9, us6, rfl, hJ9, hn6, hs⟩
  have l3 := node_lit hn3
  have l5 := node_lit hn5
  have l6 := node_lit hn6
  refine rBuildSS hs [us3, us5, us6].flatten (by decide) (by obtain ⟨_, _, _, _, _, _, _, _, rfl⟩ := l3; obtain ⟨_, _, _, _, _, _, _, _, rfl⟩ := l5; obtain ⟨_, _, _, _, _, _, _, _, rfl⟩ := l6; kernel_rfl) ?_; clear hs
  intro g4 w hs
  obtain ⟨J10, hJ10, hv10, hs⟩ := hs.nodes (l := [.mk zPred 4 [nA, nB], .mk zPred 2 [nC], nD]) 3 rfl rfl (fun i h h' => match i, h with | 0, _ => Ty_Node.mono (hJ6.trans (hJ7.trans (hJ8.trans hJ9))).le hn3 | 1, _ => Ty_Node.mono (hJ8.trans hJ9).le hn5 | 2, _ => hn6) (by simp)
  have hC := t_And _ [.mk zPred 4 [nA, nB], .mk zPred 2 [nC], nD] (fine_kids (by
    intro x hx; simp at hx; rcases hx with rfl | rfl | rfl
    · exact fine_z 4 (by simp) (by intro x hx; simp at hx; rcases hx with rfl | rfl; exact fine_A; exact fine_B)
    · exact fine_z 2 (by simp) (by intro x hx; simp at hx; subst hx; exact fine_C)
    · exact fine_D)) (by simp) hs (hv10.mono (CM.le_rd _ _))
  refine rCall hC ?_; clear hC hs
  rintro _ w ⟨J11, us, rfl, hJ11, hn, hs⟩
  have hG : Gr F I J11 := hJ1.trans (hJ2.trans (hJ3.trans (hJ4.trans (hJ5.trans (hJ6.trans (hJ7.trans (hJ8.trans (hJ9.trans (hJ10.trans hJ11)))))))))
  change Ty_Node.rep J11 us fixT at hn
  have hlen := Ty_Node.len hn
  have hnr : Ty_Node.rep (Rd J11 F) us fixT := Ty_Node.mono (CM.le_rd _ _) hn
  refine rAllocS hs zNode rfl ?_; clear hs
  intro g w hs
  refine rStNS hs hlen (by simp [show us.length = 8 from hlen]) (Ty_Node.one hn) ?_; clear hs
  intro w hs
  have e : zNode.take 0 ++ us ++ zNode.drop (0 + us.length) = us := by rw [show us.length = 8 from hlen]; simp
  rw [e] at hs
  refine rLdNS hs hlen ?_
  have hcheck : checkN fixT = true := by kernel_rfl
  have hC := t_Text fixT us hT (by decide) hs hnr
  refine rCall hC ?_; clear hC hs
  rintro _ w ⟨rfl, hs⟩
  rw [hcheck, if_pos rfl]
  refine rEX0 (l := [.int .i64 0]) <| rEX1 (l := []) <| rEqlT rfl ?_
  refine rG1 <| rG1 <| rEqlST (by rw [pr_fix]) <| rPickT ?_
  refine rG1 <| rLdNS hs hlen <| rG1 ?_
  have hC := t_Check _ fixT (Nat.lt_succ_self _) _ _ F _ w us hs hnr
  refine rCall hC ?_; clear hC hs
  rintro _ w ⟨rfl, hs⟩
  rw [hcheck]
  refine rG1 <| rEqlT rfl <| rPickT <| rG1 <| rLdNS hs hlen <| rG1 ?_
  have hC := t_Depth _ fixT (Nat.lt_succ_self _) (by decide) us hs hnr
  refine rCall hC ?_; clear hC hs
  rintro _ w ⟨rfl, hs⟩
  refine rG1 <| rEqlT (by decide) <| rPickT <| rG1 <| rLdNS hs hlen <| rG1 ?_
  have hC := t_Size _ fixT (Nat.lt_succ_self _) (by decide) us hs hnr
  refine rCall hC ?_; clear hC hs
  rintro _ w ⟨rfl, hs⟩
  refine rG1 <| rEqlT (by decide) <| rPickT <| rG1 <| rLdNS hs hlen <| rG1 <| rLdNS hs hlen <| rG1 ?_
  have hC := t_Same _ fixT (Nat.lt_succ_self _) fixT _ _ F _ w us us hs hnr hnr
  refine rCall hC ?_; clear hC hs
  rintro _ w ⟨rfl, hs⟩
  rw [sameN_self]
  refine rPickT ?_
  obtain ⟨v2, v3, A, cp, hus, -, -, hkids, -⟩ := node_cells hn
  rw [hus] at hs
  obtain ⟨b, o, ud, hA, hu, hrd, hud⟩ := hkids.rs.at (i := 2) (by decide)
  obtain ⟨upd, vd, hude, hpd, -, -⟩ := node_open (p := ⟨2, ⟨#[99]⟩, [], [⟨#[121]⟩], 0, 0⟩) (op := 1) (kids := []) hrd
  have hupd : upd.length = 6 := Ty_api_Pred.len hpd
  refine rG1 <| rFA <| rG1 <| rLdS hs rfl <| rG1 ?_
  rw [hA]
  refine rIA (by decide) (by decide) <| rG1 <| rFA <| rG1 <| rLoadN upd hupd (fun j hj => by
    have h1 := hs.pers _ _ _ (hu j (by rw [hude]; simp; omega))
    rw [List.getElem_of_eq hude, List.getElem_append_left hj] at h1
    simpa using h1) <| rG1 ?_
  have hC := t_Pred upd _ hs (Ty_api_Pred.mono (CM.le_rd _ _) hpd)
  refine rCall hC ?_; clear hC hs
  rintro _ w ⟨rfl, hs⟩
  refine rG1 <| rEqlT (by kernel_rfl) <| rPickT <| rG1 <| rBuild zNode (by kernel_rfl) <| rG1 ?_
  have hC := t_Check _ zTree (Nat.lt_succ_self _) _ _ F _ w zNode hs (zTree_rep _)
  refine rCall hC ?_; clear hC hs
  rintro _ w ⟨rfl, hs⟩
  refine rG1 <| rEqlT (by kernel_rfl) <| rPickT ⟨J11, rfl, hG, hs.drop⟩
end
end Go.Proofs.YtlbihkgfejgefaaDoor
