/- trees in form. -/
import Derived.Test.YtlbihkgfejgefaaDoorTI
namespace Go.Proofs.YtlbihkgfejgefaaDoor
open Go L
set_option linter.unusedVariables false

section
variable {c : World} {I : CM} {F : Hp} {As : List HP} {w : World}

def CheckSpec (t : TNode) : Prop := ∀ (c : World) (I : CM) (F : Hp) (As : List HP) (w : World) (us : List Value), St c I F As w → Ty_Node.rep (Rd I F) us t →
  Calls Tryd.prog i_tree_Check #[.agg us.toArray] w (callR (fun r w' => r = .int .i64 (if checkN t then 0 else 1) ∧ St c I F As w') noP)

theorem t_IndexFuncN (q : TNode → Bool) (fv v : Value) (l : List TNode) (hf : ∀ i (h : i < l.length) (us : List Value) w K, St c I F As w → Ty_Node.rep (Rd I F) us l[i] → (∀ w', St c I F As w' → K (.bool (q l[i])) w') → oCallV Tryd.prog fv [.agg us.toArray] noP w K) (hs : St c I F As w) (hv : RSl Ty_Node (Rd I F) v l) :
    Calls Tryd.prog i_slices_IndexFunc_api_Node_api_Node #[v, fv] w (callR (fun r w' => ∃ i : Int, r = .int .i64 i ∧ decide (0 ≤ i) = l.any q ∧ St c I F As w') noP) := by
  obtain ⟨A, cp, hve, hcp, hcp', hlen⟩ := hv.rs.parts
  rw [hve] at hv ⊢
  refine c_slices_IndexFunc_api_Node_api_Node ?_
  unfold n_slices_IndexFunc_api_Node_api_Node
  refine rLen ?_
  refine rLoop1 (fun y w' => ∃ k : Nat, y = .int .i64 k ∧ k ≤ l.length ∧ (l.take k).any q = false ∧ St c I F As w') (fun y _ => match y with | .int _ k => l.length - k.toNat | _ => 0) ⟨0, rfl, Nat.zero_le _, by simp, hs⟩ ?_
  clear hs
  rintro f w ag hag ⟨k, hk, hkl, ha, hs⟩
  simp only [hk] at hag ⊢
  refine cLss (fun hlt => ?_) (fun hge => ?_)
  · have hkl : k < l.length := by omega
    refine rTrue <| rKid0 hv k hkl hs fun us hr => hf k hkl us _ _ hs hr ?_
    clear hs
    intro w hs
    refine rCondB (fun hq => ?_) fun hq => ?_
    · refine ⟨k, rfl, ?_, hs⟩
      rw [List.any_eq_true.2 ⟨l[k], List.getElem_mem hkl, hq⟩]; simp
    · refine rAdd (by omega) (by omega) <| hag _ _ ⟨k + 1, by simp, by omega, ?_, hs⟩ (by dsimp only; omega)
      rw [List.take_succ_eq_append_getElem hkl, List.any_append, ha]; simp [hq]
  · have : k = l.length := by omega
    subst this
    rw [List.take_of_length_le (by omega)] at ha
    exact rFalse ⟨-1, rfl, by rw [ha]; rfl, hs⟩

theorem t_check1 (t : TNode) (ih : CheckSpec t) (us : List Value) (hs : St c I F As w) (hr : Ty_Node.rep (Rd I F) us t) :
    Calls Tryd.prog i_tree_Check_1 #[.agg us.toArray] w (callR (fun r w' => r = .bool (checkN t) ∧ St c I F As w') noP) := by
  refine c_tree_Check_1 ?_
  unfold n_tree_Check_1
  refine rBoxS hs us rfl ?_; clear hs
  intro g w hs
  refine rLdNS hs (Ty_Node.len hr) ?_
  have hC := ih c I F _ w us hs hr
  refine rCall hC ?_; clear hC hs
  rintro _ w ⟨rfl, hs⟩
  refine rEql ⟨congrArg Value.bool ?_, hs.drop⟩
  cases checkN t <;> simp

theorem t_every1N {g E : Nat} (t : TNode) (ih : CheckSpec t) (us : List Value) (K : VK) (hs : St c I F (Cells g [.func (.func i_tree_Check_1) #[] #[]] E :: As) w) (hr : Ty_Node.rep (Rd I F) us t)
    (hk : ∀ w', St c I F (Cells g [.func (.func i_tree_Check_1) #[] #[]] E :: As) w' → K (.bool (!checkN t)) w') : oCallV Tryd.prog (.func (.func i_tree_every_api_Node_1) #[] #[.pointer (some ⟨g, 0, none⟩)]) [.agg us.toArray] noP w K := by
  have hC : Calls Tryd.prog i_tree_every_api_Node_1 #[.agg us.toArray, .pointer (some ⟨g, 0, none⟩)] w (callR (fun r w' => r = .bool (!checkN t) ∧ St c I F (Cells g [.func (.func i_tree_Check_1) #[] #[]] E :: As) w') noP) := by
    refine c_tree_every_api_Node_1 ?_
    unfold n_tree_every_api_Node_1
    refine rBoxS hs us rfl ?_
    intro g2 w hs
    refine rLdS hs.p1 rfl <| rLdNS hs (Ty_Node.len hr) ?_
    have hC := t_check1 t ih us hs hr
    refine rCallF hC ?_; clear hC hs
    rintro _ w ⟨rfl, hs⟩
    exact rNot ⟨rfl, hs.drop⟩
  refine rCallF hC ?_
  rintro _ w ⟨rfl, h⟩
  exact hk _ h

theorem t_everyN (v : Value) (l : List TNode) (ih : ∀ i (h : i < l.length), CheckSpec l[i]) (hs : St c I F As w) (hv : RSl Ty_Node (Rd I F) v l) :
    Calls Tryd.prog i_tree_every_api_Node #[v, .func (.func i_tree_Check_1) #[] #[]] w (callR (fun r w' => r = .bool (l.all checkN) ∧ St c I F As w') noP) := by
  refine c_tree_every_api_Node ?_
  unfold n_tree_every_api_Node
  refine rBoxS hs [.func (.func i_tree_Check_1) #[] #[]] rfl ?_; clear hs
  intro g w hs
  have hI := t_IndexFuncN (fun x => !checkN x) (.func (.func i_tree_every_api_Node_1) #[] #[.pointer (some ⟨g, 0, none⟩)]) v l (fun i h us w K hs hr hk => t_every1N l[i] (ih i h) us K hs hr hk) hs hv
  have hC : Calls Tryd.prog i_slices_ContainsFunc_api_Node_api_Node #[v, .func (.func i_tree_every_api_Node_1) #[] #[.pointer (some ⟨g, 0, none⟩)]] w (callR (fun r w' => r = .bool (l.any fun x => !checkN x) ∧ St c I F As w') noP) := by
    refine c_slices_ContainsFunc_api_Node_api_Node ?_
    unfold n_slices_ContainsFunc_api_Node_api_Node
    refine rCall hI ?_
    rintro _ w ⟨i, rfl, hi, hs⟩
    refine rGeq ?_
    rw [hi]
    exact ⟨rfl, hs.drop⟩
  refine rCall hC ?_; clear hC hs
  rintro _ w ⟨rfl, hs⟩
  refine rNot ⟨congrArg Value.bool ?_, hs⟩
  rw [List.not_any_eq_all_not]; simp

theorem if01 (b : Bool) : decide ((if b then (0 : Int) else 1) = 0) = b := by cases b <;> rfl

set_option maxHeartbeats 2000000 in
theorem t_Check : ∀ (n : Nat) (t : TNode), SizeOf.sizeOf t < n → CheckSpec t := by
  intro n
  induction n with
  | zero => intro t h; omega
  | succ n ih =>
    intro t ht c I F As w us hs hr
    obtain ⟨p, op, kids⟩ := t
    obtain ⟨v2, v3, A, cp, rfl, hp, hop, hk, hl⟩ := node_cells hr
    have six : ∀ (w1 : World) (g : Nat), (∀ j, w1.cell? ⟨g, j, none⟩ = [Value.int .i64 p.kind, .string p.attr, v2, v3, .int .i64 p.lo, .int .i64 p.hi, .int .i64 op, .slice A kids.length cp][j]?) →
        ∀ j (hj : j < [Value.int .i64 p.kind, .string p.attr, v2, v3, .int .i64 p.lo, .int .i64 p.hi].length), w1.cell? ⟨g, 0 + 0 + j, none⟩ = some [Value.int .i64 p.kind, .string p.attr, v2, v3, .int .i64 p.lo, .int .i64 p.hi][j] := by
      intro w1 g h j hj
      rw [h]; match j, hj with | 0, _ => rfl | 1, _ => rfl | 2, _ => rfl | 3, _ => rfl | 4, _ => rfl | 5, _ => rfl
    refine c_tree_Check ?_
    unfold n_tree_Check
    refine rBoxS hs _ rfl ?_; clear hs
    intro g w hs
    refine rFA <| rLoadN [.int .i64 p.kind, .string p.attr, v2, v3, .int .i64 p.lo, .int .i64 p.hi] rfl (six w g hs.cell) <| rBuild [.int .i64 0, .string ⟨#[]⟩, .slice none 0 0, .slice none 0 0, .int .i64 0, .int .i64 0] (by kernel_rfl) ?_
    have hC := t_samePred _ _ p zPred hs hp (zPred_rep _)
    refine rCall hC ?_; clear hC hs
    rintro _ w ⟨rfl, hs⟩
    refine rCut0 (fun w' => checkN (.mk p op kids) = checkL kids ∧ St c I F (Cells g [.int .i64 p.kind, .string p.attr, v2, v3, .int .i64 p.lo, .int .i64 p.hi, .int .i64 op, .slice A kids.length cp] T_api_Node :: As) w') (fun M hM => ?_) ?_
    · refine rFA <| rLdS hs rfl <| cEql (fun h1 => ?_) (fun h1 => ?_)
      · refine rTrue ?_
        have hs := hs.drew
        refine ⟨fun w1 => ∀ j, w1.cell? ⟨g, j, none⟩ = [Value.int .i64 p.kind, .string p.attr, v2, v3, .int .i64 p.lo, .int .i64 p.hi, .int .i64 op, .slice A kids.length cp][j]?, hs.cell, ?_⟩
        refine rFA <| rHLN [.int .i64 p.kind, .string p.attr, v2, v3, .int .i64 p.lo, .int .i64 p.hi] rfl (fun w1 h => six w1 g h) ?_
        have hC := t_Pred _ p hs hp
        refine rCall hC ?_; clear hC hs
        rintro _ w ⟨rfl, hs⟩
        refine ⟨hs.cell, rD rfl <| rEql <| rFA <| rHL (fun w1 h => (h 7).trans rfl) <| rD rfl <| rLen <| rD rfl <| rEql ?_⟩
        rw [if01]
        refine rForm [predOk p, decide ((kids.length : Int) = 0)] hs (by decide) (by kernel_rfl) rfl (by simp) fun w' h => ⟨?_, h.drop⟩
        rw [checkN, if_pos h1]
      refine rFalse <| cEql (fun h2 => ?_) (fun h2 => ?_)
      · refine rTrue <| rFA <| rLdS hs rfl <| rLen <| rEql ?_
        refine rForm [samePredB p zPred, decide ((kids.length : Int) = 1)] hs (by decide) (by kernel_rfl) rfl (by simp) fun w' h => ?_
        cases hb : [samePredB p zPred, decide ((kids.length : Int) = 1)].all id
        · exact cNeq (fun _ => rTrue ⟨by rw [checkN, if_neg h1, if_pos h2, hb]; rfl, h.drop⟩) (fun e => absurd (by simp) e)
        · exact cNeq (fun e => absurd rfl e) (fun _ => rFalse <| hM _ ⟨by rw [checkN, if_neg h1, if_pos h2, hb]; rfl, h⟩)
      · refine rFalse <| rCut1 (fun v w' => v = .bool (decide (op = 3 ∨ op = 4)) ∧ w' = w) (fun M3 hM3 => ?_) ?_
        · refine cEql (fun h3 => ?_) (fun h3 => ?_)
          · exact rTrue <| hM3 _ _ ⟨by simp [h3], rfl⟩
          · refine rFalse <| rEql <| hM3 _ _ ⟨by simp [h3], rfl⟩
        rintro f w' ⟨hf, rfl⟩
        rw [hf]
        refine rCond (fun h3 => ?_) (fun h3 => ?_)
        · refine rFA <| rLdS hs rfl <| rLen <| rGtr ?_
          refine rForm [samePredB p zPred, decide (1 < (kids.length : Int))] hs (by decide) (by kernel_rfl) rfl (by simp) fun w' h => ?_
          cases hb : [samePredB p zPred, decide (1 < (kids.length : Int))].all id
          · exact cNeq (fun _ => rTrue ⟨by rw [checkN, if_neg h1, if_neg h2, if_pos h3, hb]; rfl, h.drop⟩) (fun e => absurd (by simp) e)
          · exact cNeq (fun e => absurd rfl e) (fun _ => rFalse <| hM _ ⟨by rw [checkN, if_neg h1, if_neg h2, if_pos h3, hb]; rfl, h⟩)
        · exact ⟨by rw [checkN, if_neg h1, if_neg h2, if_neg h3]; rfl, hs.drop⟩
    clear hs
    rintro f w ⟨hc, hs⟩
    refine rFA <| rLdS hs rfl ?_
    have hC := t_everyN _ kids (fun i h => ih _ (by have := kid_lt (p := p) (op := op) h; omega)) hs hk
    refine rCall hC ?_; clear hC hs
    rintro _ w ⟨rfl, hs⟩
    refine rForm [kids.all checkN] hs (by decide) (by kernel_rfl) rfl (by simp) fun w' h => ⟨?_, h.drop⟩
    rw [hc, checkL_all]; simp
end
end Go.Proofs.YtlbihkgfejgefaaDoor
