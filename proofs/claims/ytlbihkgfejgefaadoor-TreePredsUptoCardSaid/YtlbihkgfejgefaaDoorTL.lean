/- trees written. -/
import Derived.Test.YtlbihkgfejgefaaDoorTK
namespace Go.Proofs.YtlbihkgfejgefaaDoor
open Go L
set_option linter.unusedVariables false

def sepT (op : Int) : List UInt8 := if op = 4 then [32, 124, 32] else [32, 38, 32]
def parT (op ko : Int) (s : List UInt8) : List UInt8 := if ko = 4 ∨ (ko = 3 ∧ op ≠ 4) then [40] ++ s ++ [41] else s
mutual
def printN : TNode → List UInt8
  | .mk p op kids => if op = 1 then predT p else if op = 2 then [33] ++ joinT (sepT op) (printL op kids) else joinT (sepT op) (printL op kids)
def printL (op : Int) : List TNode → List ByteArray
  | [] => []
  | .mk p ko ks :: r => B (parT op ko (printN (.mk p ko ks))) :: printL op r
end
def kidB (op : Int) (k : TNode) : ByteArray := B (parT op k.op (printN k))
theorem printL_map (op : Int) : ∀ l, printL op l = l.map (kidB op)
  | [] => by simp [printL]
  | .mk p ko ks :: r => by simp only [printL, List.map_cons, printL_map op r]; rfl
mutual
def costN : TNode → Nat
  | .mk p _ kids => costP p + 8 + costL kids
def costL : List TNode → Nat
  | [] => 0
  | k :: r => costN k + 8 + costL r
end
theorem costL_app (a b : List TNode) : costL (a ++ b) = costL a + costL b := by
  induction a with
  | nil => simp [costL]
  | cons x a ih => simp only [List.cons_append, costL, ih]; omega
theorem costL_take {l : List TNode} {k : Nat} (h : k < l.length) : costL (l.take (k + 1)) = costL (l.take k) + costN l[k] + 8 ∧ costL (l.take (k + 1)) ≤ costL l := by
  have h1 := costL_app (l.take (k + 1)) (l.drop (k + 1))
  rw [List.take_append_drop] at h1
  refine ⟨?_, by omega⟩
  rw [List.take_succ_eq_append_getElem h, costL_app]
  simp only [costL]; omega
theorem costL_len (l : List TNode) : 8 * l.length ≤ costL l := by
  induction l with
  | nil => simp
  | cons a l ih => simp only [costL, List.length_cons]; omega
theorem szs_snoc (l : List ByteArray) (b : ByteArray) : szs (l ++ [b]) = szs l + b.size := by simp only [szs, List.map_append, List.sum_append, List.map_cons, List.map_nil, List.sum_cons, List.sum_nil, Nat.add_zero]
theorem parT_len (op ko : Int) (s : List UInt8) : (parT op ko s).length ≤ s.length + 2 := by
  unfold parT; split <;> simp

section
variable {c : World} {I : CM} {F : Hp} {As : List HP} {w : World}

theorem t_between (op : Int) (hs : St c I F As w) : Calls Tryd.prog i_tree_between #[.int .i64 op] w (callR (fun r w' => r = .string (B (sepT op)) ∧ St c I F As w') noP) := by
  refine c_tree_between ?_
  unfold n_tree_between
  refine cEql (fun h => rTrue ⟨?_, hs⟩) (fun h => rFalse ⟨?_, hs⟩)
  · rw [sepT, if_pos h]
  · rw [sepT, if_neg h]

def PrintSpec (t : TNode) : Prop := ∀ (c : World) (I : CM) (F : Hp) (As : List HP) (w : World) (us : List Value), PowT F → costN t ≤ 1099511627776 → St c I F As w → Ty_Node.rep (Rd I F) us t →
  Calls Tryd.prog i_tree_printed #[.agg us.toArray] w (callR (fun r w' => r = .string (B (printN t)) ∧ (printN t).length ≤ costN t ∧ St c I F As w') noP)

set_option maxHeartbeats 2000000 in
theorem t_printed : ∀ (n : Nat) (t : TNode), SizeOf.sizeOf t < n → PrintSpec t := by
  intro n
  induction n with
  | zero => intro t h; omega
  | succ n ih =>
    intro t ht c I F As w us hT hcost hs hr
    obtain ⟨p, op, kids⟩ := t
    obtain ⟨v2, v3, A, cp, rfl, hp, hop, hk, hl⟩ := node_cells hr
    have hcn : costN (.mk p op kids) = costP p + 8 + costL kids := by simp only [costN]
    have hkl := costL_len kids
    refine c_tree_printed ?_
    unfold n_tree_printed
    refine rBoxS hs _ rfl ?_; clear hs
    intro g w hs
    refine rFA <| rLdS hs rfl <| cEql (fun h1 => ?_) (fun h1 => ?_)
    · refine rTrue <| rFA <| rLoadN [.int .i64 p.kind, .string p.attr, v2, v3, .int .i64 p.lo, .int .i64 p.hi] rfl (fun j hj => by
        rw [hs.cell]; match j, hj with | 0, _ => rfl | 1, _ => rfl | 2, _ => rfl | 3, _ => rfl | 4, _ => rfl | 5, _ => rfl) ?_
      have hC := t_predicate _ p hT (by omega) hs hp
      refine rCall hC ?_; clear hC hs
      rintro _ w ⟨rfl, hlen, hs⟩
      exact ⟨by rw [printN, if_pos h1], by rw [printN, if_pos h1]; omega, hs.drop⟩
    refine rFalse <| rFA <| rLdS hs rfl <| rLen ?_
    refine rLoop2 (fun x y w' => ∃ k : Nat, y = .int .i64 k ∧ k ≤ kids.length ∧ szs ((kids.take k).map (kidB op)) + 6 * k ≤ costL (kids.take k) ∧ St c I F (OwnSl Ty.str T_string x ((kids.take k).map (kidB op)) :: Cells g [.int .i64 p.kind, .string p.attr, v2, v3, .int .i64 p.lo, .int .i64 p.hi, .int .i64 op, .slice A kids.length cp] T_api_Node :: As) w') (fun _ y _ => match y with | .int _ k => kids.length - k.toNat | _ => 0) ⟨0, rfl, Nat.zero_le _, by simp [szs], hs.ownNil _ _⟩ ?_
    clear hs
    rintro f w ag hag ⟨k, hk', hkn, hsz, hs⟩
    generalize f 3 = x at hs ⊢
    simp only [hk'] at hag ⊢
    refine cLss (fun hlt => ?_) (fun hge => ?_)
    · have hkn : k < kids.length := by omega
      obtain ⟨ht1, ht2⟩ := costL_take hkn
      refine rTrue <| rKid hk k hkn hs ?_; clear hs
      intro us g2 w hr2 hs
      have hC := ih kids[k] (by have := kid_lt (p := p) (op := op) hkn; omega) c I F _ w us hT (by omega) hs hr2
      refine rCall hC ?_; clear hC hs
      rintro _ w ⟨rfl, hlen, hs⟩
      rcases hkk : kids[k] with ⟨p', op', ks'⟩
      rw [hkk] at hr2 hlen ht1
      obtain ⟨u2, u3, A', cp', rfl, -, -, -, -⟩ := node_cells hr2
      have hpl := parT_len op op' (printN (.mk p' op' ks'))
      have hkb : kidB op kids[k] = B (parT op op' (printN (.mk p' op' ks'))) := by rw [hkk]; rfl
      have hs1 := hs.p2
      generalize hS : printN (.mk p' op' ks') = S at hpl hkb hlen
      refine rCut1 (fun v w' => v = .string (kidB op kids[k]) ∧ w' = w) (fun M hM => ?_) ?_
      · have yes : ∀ ox oy ox' oy', (op' = 4 ∨ (op' = 3 ∧ op ≠ 4)) → oBin Tryd.prog .add T_string ox oy (.string ⟨#[40]⟩) (.string (B S)) noP w fun t37 w => oBin Tryd.prog .add T_string ox' oy' t37 (.string ⟨#[41]⟩) noP w fun t38 w => M [t38] w := by
          intro ox oy ox' oy' h
          refine rAddStr (by have := B_size S; show 1 + _ ≤ _; omega) ?_
          have e1 : (ByteArray.mk #[40]) ++ B S = B ([40] ++ S) := B_app [40] S
          rw [e1]
          refine rAddStr (by rw [B_size]; show _ + 1 ≤ _; simp only [List.length_append, List.length_cons, List.length_nil]; omega) ?_
          have e2 : B ([40] ++ S) ++ (ByteArray.mk #[41]) = B ([40] ++ S ++ [41]) := B_app _ [41]
          rw [e2]
          exact hM _ _ ⟨by rw [hkb, parT, if_pos h], rfl⟩
        have no : ¬ (op' = 4 ∨ (op' = 3 ∧ op ≠ 4)) → M [.string (B S)] w := fun h => hM _ _ ⟨by rw [hkb, parT, if_neg h], rfl⟩
        repeat' (first | refine rG1 ?_ | refine rG0 ?_ | refine rPickT ?_ | refine rPickF ?_ | refine rFA ?_ | refine rLdS hs rfl ?_ | refine rLdS hs1 rfl ?_ | refine cEql (fun _ => ?_) (fun _ => ?_) | refine cNeq (fun _ => ?_) (fun _ => ?_) | refine rTrue ?_ | refine rFalse ?_)
        all_goals first
          | exact yes _ _ _ _ (by omega)
          | exact no (by omega)
      rintro f w' ⟨hf, rfl⟩
      rw [hf]
      refine rBuildSS hs [.string (kidB op kids[k])] (by decide) (by kernel_rfl) ?_; clear hs hs1
      intro g3 w hs
      have hkz : (kidB op kids[k]).size ≤ S.length + 2 := by rw [hkb, B_size]; omega
      refine rApp1 (x := kidB op kids[k]) hs.p2.p1 ⟨rfl, by omega⟩ rfl (by rfl) (by decide) (by rw [List.length_map, List.length_take]; omega) (by decide) ?_; clear hs
      intro v' w hs
      refine rAdd (by omega) (by omega) <| hag _ _ _ ⟨k + 1, by simp, by omega, ?_, ?_⟩ (by dsimp only; omega)
      · rw [List.take_succ_eq_append_getElem hkn, List.map_append, List.map_cons, List.map_nil, szs_snoc]
        have := (costL_take hkn).1
        rw [List.take_succ_eq_append_getElem hkn] at this
        rw [this, hkk]; rw [hkk] at hkz; omega
      · rw [List.take_succ_eq_append_getElem hkn, List.map_append]
        exact hs.p1.drop
    · have : k = kids.length := by omega
      subst this
      rw [List.take_length] at hs hsz
      have hj := join_le (sepT op) (kids.map (kidB op))
      have hsep : (sepT op).length = 3 := by unfold sepT; split <;> rfl
      rw [List.length_map, hsep] at hj
      have hpm : printL op kids = kids.map (kidB op) := printL_map op kids
      refine rFalse <| rFA <| rLdS hs.p1 rfl ?_
      have hC := t_between op hs
      refine rCall hC ?_; clear hC hs
      rintro _ w ⟨rfl, hs⟩
      obtain ⟨F', hF, hr', hs2, back⟩ := hs.lendSl (by rw [List.length_map]; omega)
      have hC := b_Join x (kids.map (kidB op)) (B (sepT op)) hs2 hr' (by rw [B_list]; omega)
      refine rCall hC ?_; clear hC hs hs2
      rintro _ w ⟨rfl, hs⟩
      obtain ⟨-, hs⟩ := back _ _ _ (Gr.refl _ _) hs
      have hs := hs.drop
      rw [B_list]
      refine rFA <| rLdS hs rfl <| cEql (fun h2 => ?_) (fun h2 => ?_)
      · refine rTrue <| rAddStr (by rw [show ByteArray.size ⟨(joinT (sepT op) (kids.map (kidB op))).toArray⟩ = _ from B_size _]; show 1 + _ ≤ _; omega) ?_
        have e1 : (ByteArray.mk #[33]) ++ B (joinT (sepT op) (kids.map (kidB op))) = B ([33] ++ joinT (sepT op) (kids.map (kidB op))) := B_app [33] _
        have e2 : printN (.mk p op kids) = [33] ++ joinT (sepT op) (kids.map (kidB op)) := by rw [printN, if_neg h1, if_pos h2, hpm]
        refine ⟨?_, by rw [e2, List.length_append]; simp only [List.length_cons, List.length_nil]; omega, hs.drop⟩
        rw [e2]; exact congrArg Value.string e1
      · have e2 : printN (.mk p op kids) = joinT (sepT op) (kids.map (kidB op)) := by rw [printN, if_neg h1, if_neg h2, hpm]
        exact rFalse ⟨by rw [e2], by rw [e2]; omega, hs.drop⟩

theorem t_Text (t : TNode) (us : List Value) (hT : PowT F) (hcost : costN t ≤ 1099511627776) (hs : St c I F As w) (hr : Ty_Node.rep (Rd I F) us t) :
    Calls Tryd.prog i_tree_Text #[.agg us.toArray] w (callR (fun r w' => r = (if checkN t then .tuple #[.string (B (printN t)), .int .i64 0] else .tuple #[.string ⟨#[]⟩, .int .i64 1]) ∧ St c I F As w') noP) := by
  refine c_tree_Text ?_
  unfold n_tree_Text
  refine rBoxS hs us rfl ?_; clear hs
  intro g w hs
  refine rLdNS hs (Ty_Node.len hr) ?_
  have hC := t_Check _ t (Nat.lt_succ_self _) c I F _ w us hs hr
  refine rCall hC ?_; clear hC hs
  rintro _ w ⟨rfl, hs⟩
  cases hb : checkN t
  · exact cNeq (fun _ => rTrue ⟨rfl, hs.drop⟩) (fun e => absurd (by simp) e)
  · refine cNeq (fun e => absurd rfl e) (fun _ => rFalse <| rLdNS hs (Ty_Node.len hr) ?_)
    have hC := t_printed _ t (Nat.lt_succ_self _) c I F _ w us hT hcost hs hr
    refine rCall hC ?_; clear hC hs
    rintro _ w ⟨rfl, -, hs⟩
    exact ⟨rfl, hs.drop⟩
end
end Go.Proofs.YtlbihkgfejgefaaDoor
