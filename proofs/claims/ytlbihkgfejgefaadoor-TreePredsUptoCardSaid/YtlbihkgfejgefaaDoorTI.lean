/- trees held against each other; in form. -/
import Derived.Test.YtlbihkgfejgefaaDoorTH
namespace Go.Proofs.YtlbihkgfejgefaaDoor
open Go L
set_option linter.unusedVariables false

mutual
def checkN : TNode → Bool
  | .mk p op kids => if op = 1 then [predOk p, decide ((kids.length : Int) = 0)].all id else if op = 2 then [samePredB p zPred, decide ((kids.length : Int) = 1)].all id && checkL kids
    else if op = 3 ∨ op = 4 then [samePredB p zPred, decide (1 < (kids.length : Int))].all id && checkL kids else false
def checkL : List TNode → Bool
  | [] => true
  | k :: r => checkN k && checkL r
end
theorem checkL_all : ∀ l, checkL l = l.all checkN
  | [] => rfl
  | k :: r => by simp only [checkL, List.all_cons, checkL_all r]

theorem sameL_iff : ∀ (l m : List TNode), sameL l m = (decide (l.length = m.length) && (List.range l.length).all fun i => match l[i]?, m[i]? with | some a, some b => sameN a b | _, _ => false)
  | [], [] => rfl
  | [], b :: m => by simp [sameL]
  | a :: l, [] => by simp [sameL]
  | a :: l, b :: m => by
    simp only [sameL, sameL_iff l m, List.length_cons, List.range_succ_eq_map, List.all_cons, List.getElem?_cons_zero, List.all_map]
    have : (decide (l.length + 1 = m.length + 1)) = decide (l.length = m.length) := by simp
    rw [this]
    cases h : sameN a b <;> cases h2 : decide (l.length = m.length) <;> simp <;> rfl

theorem sameL_no {l m : List TNode} (h : l.length ≠ m.length) : sameL l m = false := by rw [sameL_iff]; simp [h]
theorem sameL_at {l m : List TNode} {k : Nat} (h1 : k < l.length) (h2 : k < m.length) (h : sameN l[k] m[k] = false) : sameL l m = false := by
  rw [sameL_iff, Bool.and_eq_false_iff]; right
  rw [List.all_eq_false]
  exact ⟨k, by simpa using h1, by simp [h1, h2, h]⟩
theorem sameL_yes {l m : List TNode} (h : l.length = m.length) (ha : ∀ k (h1 : k < l.length) (h2 : k < m.length), sameN l[k] m[k] = true) : sameL l m = true := by
  rw [sameL_iff, Bool.and_eq_true]
  refine ⟨by simp [h], ?_⟩
  rw [List.all_eq_true]
  intro i hi
  have hi : i < l.length := by simpa using hi
  simp [hi, show i < m.length by omega, ha i hi (by omega)]

section
variable {c : World} {I : CM} {F : Hp} {As : List HP} {w : World}

theorem rKid0 {tt by_ : Nat} [h : SliceT Tryd.prog tt T_api_Node 8 by_] {K : Value → World → Prop} {Kp : PK} {A : Option Addr} {cp : Nat} {kids : List TNode} (hv : RSl Ty_Node (Rd I F) (.slice A kids.length cp) kids) (k : Nat) (hk : k < kids.length) (hs : St c I F As w)
    (hK : ∀ us, Ty_Node.rep (Rd I F) us kids[k] → K (.agg us.toArray) w) :
    oIA Tryd.prog tt (.slice A kids.length cp) (.int .i64 k) Kp w fun t11 w => oLoad Tryd.prog T_api_Node t11 Kp w K := by
  obtain ⟨b, o, us, hA, hu, hrep, hul⟩ := hv.rs.at (i := k) hk
  have hul' : us.length = 8 := hul
  rw [hA]
  exact rIA (by omega) (by omega) <| rLoadN us hul' (fun j hj => by have := hs.rdCell (hu j hj); simpa [Nat.mul_comm] using this) (hK us hrep)

theorem rKid2 {tt by_ : Nat} [h : SliceT Tryd.prog tt T_api_Node 8 by_] {K : Value → World → Prop} {Kp : PK} {A : Option Addr} {cp : Nat} {kids : List TNode} (hv : RSl Ty_Node (Rd I F) (.slice A kids.length cp) kids) (k : Nat) (hk : k < kids.length) (hs : St c I F As w)
    (hK : ∀ us g w', Ty_Node.rep (Rd I F) us kids[k] → St c I F (Cells g us T_api_Node :: As) w' → K (.pointer (some ⟨g, 0, none⟩)) w') :
    oIA Tryd.prog tt (.slice A kids.length cp) (.int .i64 k) Kp w fun t11 w => oLoad Tryd.prog T_api_Node t11 Kp w fun t12 w => oAlloc Tryd.prog T_api_Node Kp w fun t5 w => oStore Tryd.prog T_api_Node t5 t12 Kp w fun _t w => K t5 w := by
  refine rKid0 hv k hk hs fun us hrep => ?_
  have hul' : us.length = 8 := Ty_Node.len hrep
  refine rAllocS hs zNode rfl ?_; clear hs
  intro g w hs
  refine rStNS hs hul' (by simp [hul']) (Ty_Node.one hrep) ?_; clear hs
  intro w hs
  have e : zNode.take 0 ++ us ++ zNode.drop (0 + us.length) = us := by rw [hul']; simp
  rw [e] at hs
  exact hK us g w hrep hs

def SameSpec (t : TNode) : Prop := ∀ (u : TNode) (c : World) (I : CM) (F : Hp) (As : List HP) (w : World) (us vs : List Value), St c I F As w → Ty_Node.rep (Rd I F) us t → Ty_Node.rep (Rd I F) vs u →
  Calls Tryd.prog i_tree_Same #[.agg us.toArray, .agg vs.toArray] w (callR (fun r w' => r = .bool (sameN t u) ∧ St c I F As w') noP)

theorem t_EqualFunc (va vb : Value) (ks js : List TNode) (ih : ∀ i (h : i < ks.length), SameSpec ks[i]) (hs : St c I F As w) (ha : RSl Ty_Node (Rd I F) va ks) (hb : RSl Ty_Node (Rd I F) vb js) :
    Calls Tryd.prog i_slices_EqualFunc_api_Node_api_Node_api_Node_api_Node #[va, vb, .func (.func i_tree_Same) #[] #[]] w (callR (fun r w' => r = .bool (sameL ks js) ∧ St c I F As w') noP) := by
  obtain ⟨A, cp, hve, -, -, hl⟩ := ha.rs.parts
  obtain ⟨B, cq, hvf, -, -, hl'⟩ := hb.rs.parts
  rw [hve] at ha ⊢; rw [hvf] at hb ⊢
  refine c_slices_EqualFunc_api_Node_api_Node_api_Node_api_Node ?_
  unfold n_slices_EqualFunc_api_Node_api_Node_api_Node_api_Node
  refine rLen <| rLen <| cNeq (fun h => ?_) (fun h => ?_)
  · exact rTrue ⟨by rw [sameL_no (by omega)], hs⟩
  have hll : ks.length = js.length := by omega
  refine rFalse <| rLen ?_
  refine rLoop1 (fun y w' => ∃ k : Nat, y = .int .i64 k ∧ k ≤ ks.length ∧ (∀ i (h1 : i < ks.length) (h2 : i < js.length), i < k → sameN ks[i] js[i] = true) ∧ St c I F As w') (fun y _ => match y with | .int _ k => ks.length - k.toNat | _ => 0) ⟨0, rfl, Nat.zero_le _, fun _ _ _ h => absurd h (by omega), hs⟩ ?_
  clear hs
  rintro f w ag hag ⟨k, hk, hkl, hall, hs⟩
  simp only [hk] at hag ⊢
  refine cLss (fun hlt => ?_) (fun hge => ?_)
  · have hkl : k < ks.length := by omega
    refine rTrue <| rKid2 ha k hkl hs ?_; clear hs
    intro us g1 w hr1 hs
    refine rKid2 hb k (by omega) hs ?_; clear hs
    intro vs g2 w hr2 hs
    refine rLdNS hs.p1 (Ty_Node.len hr1) <| rLdNS hs (Ty_Node.len hr2) ?_
    have hC := ih k hkl js[k] c I F _ w us vs hs hr1 hr2
    refine rCallF hC ?_; clear hC hs
    rintro r w ⟨hr, hs⟩
    cases hb : sameN ks[k] js[k] <;> (rw [hb] at hr; subst hr)
    · exact rNotF <| rTrue ⟨by rw [sameL_at hkl (by omega) hb], hs.drop.drop⟩
    · refine rNotT <| rFalse <| rAdd (by omega) (by omega) <| hag _ _ ⟨k + 1, by simp, by omega, fun i h1 h2 hi => ?_, hs.drop.drop⟩ (by dsimp only; omega)
      by_cases hik : i = k
      · subst hik; exact hb
      · exact hall i h1 h2 (by omega)
  · exact rFalse ⟨by rw [sameL_yes hll (fun i h1 h2 => hall i h1 h2 (by omega))], hs⟩

theorem t_Same : ∀ (n : Nat) (t : TNode), SizeOf.sizeOf t < n → SameSpec t := by
  intro n
  induction n with
  | zero => intro t h; omega
  | succ n ih =>
    intro t ht u c I F As w us vs hs hr hq
    obtain ⟨p, op, kids⟩ := t
    obtain ⟨q, oq, jids⟩ := u
    obtain ⟨v2, v3, A, cp, rfl, hp, hop, hk, hl⟩ := node_cells hr
    obtain ⟨u2, u3, B, cq, rfl, hp2, hoq, hj, hl2⟩ := node_cells hq
    refine c_tree_Same ?_
    unfold n_tree_Same
    refine rBoxS hs _ rfl ?_; clear hs
    intro g1 w hs
    refine rBoxS hs _ rfl ?_; clear hs
    intro g2 w hs
    have hs1 := hs.p1
    refine rFA <| rLdS hs1 rfl <| rFA <| rLdS hs rfl <| cEql (fun h => ?_) (fun h => ?_)
    · refine rG1 <| rFA <| rG1 <| rLoadN [.int .i64 p.kind, .string p.attr, v2, v3, .int .i64 p.lo, .int .i64 p.hi] rfl (fun j hj => ?_) <| rG1 <| rFA <| rG1 <| rLoadN [.int .i64 q.kind, .string q.attr, u2, u3, .int .i64 q.lo, .int .i64 q.hi] rfl (fun j hj => ?_) <| rG1 ?_
      · rw [hs1.cell]; match j, hj with | 0, _ => rfl | 1, _ => rfl | 2, _ => rfl | 3, _ => rfl | 4, _ => rfl | 5, _ => rfl
      · rw [hs.cell]; match j, hj with | 0, _ => rfl | 1, _ => rfl | 2, _ => rfl | 3, _ => rfl | 4, _ => rfl | 5, _ => rfl
      have hC := t_samePred _ _ p q hs hp hp2
      refine rCall hC ?_; clear hC hs hs1
      rintro r w ⟨hr, hs⟩
      have hs1 := hs.p1
      cases hb : samePredB p q <;> (rw [hb] at hr; subst hr)
      · repeat' (first | refine rG1 ?_ | refine rG0 ?_ | refine rPickT ?_ | refine rPickF ?_)
        exact ⟨by simp [sameN, hb], hs.drop.drop⟩
      · repeat' (first | refine rG1 ?_ | refine rG0 ?_ | refine rPickT ?_ | refine rPickF ?_ | refine rFA ?_ | refine rLdS hs rfl ?_ | refine rLdS hs1 rfl ?_)
        have hC := t_EqualFunc _ _ kids jids (fun i h => ih _ (by have := kid_lt (p := p) (op := op) h; omega)) hs hk hj
        refine rCall hC ?_; clear hC hs hs1
        rintro r w ⟨rfl, hs⟩
        repeat' (first | refine rG1 ?_ | refine rG0 ?_ | refine rPickT ?_ | refine rPickF ?_)
        exact ⟨by simp [sameN, hb, h], hs.drop.drop⟩
    · repeat' (first | refine rG1 ?_ | refine rG0 ?_ | refine rPickT ?_ | refine rPickF ?_)
      exact ⟨by simp [sameN, h], hs.drop.drop⟩
end
end Go.Proofs.YtlbihkgfejgefaaDoor
