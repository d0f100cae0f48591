/- levels, nodes, sameness of trees. -/
import Derived.Test.YtlbihkgfejgefaaDoorTG
namespace Go.Proofs.YtlbihkgfejgefaaDoor
open Go L
set_option linter.unusedVariables false

mutual
def depthN : TNode → Int
  | .mk _ _ kids => depthL kids + 1
def depthL : List TNode → Int
  | [] => 0
  | k :: r => max (depthN k) (depthL r)
end
mutual
def sizeN : TNode → Int
  | .mk _ _ kids => 1 + sizeL kids
def sizeL : List TNode → Int
  | [] => 0
  | k :: r => sizeN k + sizeL r
end
mutual
def sameN : TNode → TNode → Bool
  | .mk p o ks, .mk q o' js => decide (o = o') && samePredB p q && sameL ks js
def sameL : List TNode → List TNode → Bool
  | [], [] => true
  | k :: r, j :: s => sameN k j && sameL r s
  | _, _ => false
end

theorem depthL_snoc (l : List TNode) (b : TNode) : depthL (l ++ [b]) = max (depthL l) (depthN b) := by
  induction l with
  | nil => simp only [List.nil_append, depthL]; omega
  | cons a l ih => simp only [List.cons_append, depthL, ih]; omega
theorem sizeL_snoc (l : List TNode) (b : TNode) : sizeL (l ++ [b]) = sizeL l + sizeN b := by
  induction l with
  | nil => simp only [List.nil_append, sizeL]; omega
  | cons a l ih => simp only [List.cons_append, sizeL, ih]; omega
theorem depthL_take {l : List TNode} {k : Nat} (h : k < l.length) : depthL (l.take (k + 1)) = max (depthL (l.take k)) (depthN l[k]) := by
  rw [List.take_succ_eq_append_getElem h, depthL_snoc]
theorem sizeL_take {l : List TNode} {k : Nat} (h : k < l.length) : sizeL (l.take (k + 1)) = sizeL (l.take k) + sizeN l[k] := by
  rw [List.take_succ_eq_append_getElem h, sizeL_snoc]
mutual
theorem size_depth : ∀ t, 1 ≤ depthN t ∧ depthN t ≤ sizeN t
  | .mk p o kids => by have := sizeL_depth kids; simp only [depthN, sizeN]; omega
theorem sizeL_depth : ∀ l, 0 ≤ depthL l ∧ depthL l ≤ sizeL l
  | [] => by simp only [depthL, sizeL]; omega
  | k :: r => by have := size_depth k; have := sizeL_depth r; simp only [depthL, sizeL]; omega
end
theorem sizeL_kid {l : List TNode} {k : Nat} (h : k < l.length) : sizeN l[k] ≤ sizeL l ∧ sizeL (l.take k) + sizeN l[k] ≤ sizeL l ∧ 0 ≤ sizeL (l.take k) := by
  have h1 := sizeL_take h
  have h2 : ∀ a b : List TNode, sizeL (a ++ b) = sizeL a + sizeL b := by
    intro a b
    induction a with
    | nil => simp only [List.nil_append, sizeL]; omega
    | cons x a ih => simp only [List.cons_append, sizeL, ih]; omega
  have h3 := h2 (l.take (k + 1)) (l.drop (k + 1))
  rw [List.take_append_drop] at h3
  have h4 := sizeL_depth (l.drop (k + 1))
  have h5 := sizeL_depth (l.take k)
  omega
theorem depthL_le {l : List TNode} {k : Nat} : depthL (l.take k) ≤ sizeL l := by
  have h2 : ∀ a b : List TNode, depthL a ≤ depthL (a ++ b) := by
    intro a b
    induction a with
    | nil => have := sizeL_depth b; simp only [List.nil_append, depthL]; omega
    | cons x a ih => simp only [List.cons_append, depthL]; omega
  have h3 := h2 (l.take k) (l.drop k)
  rw [List.take_append_drop] at h3
  have := sizeL_depth l
  omega

section
variable {c : World} {I : CM} {F : Hp} {As : List HP} {w : World}

theorem rKid {tt by_ : Nat} [h : SliceT Tryd.prog tt T_api_Node 8 by_] {K : Value → Value → World → Prop} {Kp : PK} {A : Option Addr} {cp : Nat} {kids : List TNode} (hv : RSl Ty_Node (Rd I F) (.slice A kids.length cp) kids) (k : Nat) (hk : k < kids.length) (hs : St c I F As w)
    (hK : ∀ us g w', Ty_Node.rep (Rd I F) us kids[k] → St c I F (Cells g us T_api_Node :: As) w' → K (.pointer (some ⟨g, 0, none⟩)) (.agg us.toArray) w') :
    oIA Tryd.prog tt (.slice A kids.length cp) (.int .i64 k) Kp w fun t11 w => oLoad Tryd.prog T_api_Node t11 Kp w fun t12 w => oAlloc Tryd.prog T_api_Node Kp w fun t5 w => oStore Tryd.prog T_api_Node t5 t12 Kp w fun _t w => oLoad Tryd.prog T_api_Node t5 Kp w fun t14 w => K t5 t14 w := by
  obtain ⟨b, o, us, hA, hu, hrep, hul⟩ := hv.rs.at (i := k) hk
  have hul' : us.length = 8 := hul
  rw [hA]
  refine rIA (by omega) (by omega) <| rLoadN us hul' (fun j hj => by have := hs.rdCell (hu j hj); simpa [Nat.mul_comm] using this) ?_
  refine rAllocS hs zNode rfl ?_; clear hs
  intro g w hs
  refine rStNS hs hul' (by simp [hul']) (Ty_Node.one hrep) ?_; clear hs
  intro w hs
  have e : zNode.take 0 ++ us ++ zNode.drop (0 + us.length) = us := by rw [hul']; simp
  rw [e] at hs
  exact rLdNS hs hul' (hK us g w hrep hs)

/-- the eight cells of a node in a block -/
theorem node_cells {us : List Value} {p : D_api_Pred} {op : Int} {kids : List TNode} (hr : Ty_Node.rep I us (.mk p op kids)) :
    ∃ v2 v3 A cp, us = [.int .i64 p.kind, .string p.attr, v2, v3, .int .i64 p.lo, .int .i64 p.hi, .int .i64 op, .slice A kids.length cp] ∧ Ty_api_Pred.rep I [.int .i64 p.kind, .string p.attr, v2, v3, .int .i64 p.lo, .int .i64 p.hi] p ∧ (-9223372036854775808 ≤ op ∧ op ≤ 9223372036854775807) ∧ RSl Ty_Node I (.slice A kids.length cp) kids ∧ kids.length ≤ 140737488355328 := by
  obtain ⟨up, vk, hus, hp, hop, hk⟩ := node_open hr
  have hp0 := hp
  obtain ⟨v2, v3, hup, -⟩ := hp
  subst hup
  obtain ⟨A, cp, hve, -, -, hl⟩ := hk.rs.parts
  subst hve
  exact ⟨v2, v3, A, cp, hus, hp0, hop, hk, hl⟩

set_option maxHeartbeats 1000000 in
theorem t_Depth : ∀ (n : Nat) (t : TNode), SizeOf.sizeOf t < n → sizeN t ≤ 1099511627776 → ∀ {c I F As w} (us : List Value), St c I F As w → Ty_Node.rep (Rd I F) us t →
    Calls Tryd.prog i_tree_Depth #[.agg us.toArray] w (callR (fun r w' => r = .int .i64 (depthN t) ∧ St c I F As w') noP) := by
  intro n
  induction n with
  | zero => intro t h; omega
  | succ n ih =>
    intro t ht hsz c I F As w us hs hr
    obtain ⟨p, op, kids⟩ := t
    obtain ⟨v2, v3, A, cp, rfl, hp, hop, hk, hl⟩ := node_cells hr
    have hd := size_depth (.mk p op kids)
    refine c_tree_Depth ?_
    unfold n_tree_Depth
    refine rBoxS hs _ rfl ?_; clear hs
    intro g w hs
    refine rFA <| rLdS hs rfl <| rLen ?_
    refine rLoop2 (fun x y w' => ∃ k : Nat, y = .int .i64 k ∧ k ≤ kids.length ∧ x = .int .i64 (depthL (kids.take k)) ∧ St c I F (Cells g _ _ :: As) w') (fun _ y _ => match y with | .int _ k => kids.length - k.toNat | _ => 0) ⟨0, rfl, Nat.zero_le _, by simp [depthL], hs⟩ ?_
    clear hs
    rintro f w ag hag ⟨k, hk', hkl, hx, hs⟩
    simp only [hk', hx] at hag ⊢
    refine cLss (fun hlt => ?_) (fun hge => ?_)
    · have hkl : k < kids.length := by omega
      refine rTrue <| rKid hk k hkl hs ?_; clear hs
      intro us g2 w hr2 hs
      have h1 := sizeL_kid hkl
      have h2 := size_depth kids[k]
      have hC := ih kids[k] (by have := kid_lt (p := p) (op := op) hkl; omega) (by simp only [sizeN] at hsz; omega) us hs hr2
      refine rCall hC ?_; clear hC hs
      rintro _ w ⟨rfl, hs⟩
      refine rMax <| rAdd (by omega) (by omega) <| hag _ _ _ ⟨k + 1, by simp, by omega, by rw [depthL_take hkl], hs.drop⟩ (by dsimp only; omega)
    · have : k = kids.length := by omega
      subst this
      have h3 := depthL_le (l := kids) (k := kids.length)
      have h4 := sizeL_depth kids
      rw [List.take_length] at h3 ⊢
      simp only [sizeN] at hsz
      exact rFalse <| rAdd (by omega) (by omega) ⟨by simp only [depthN], hs.drop⟩

set_option maxHeartbeats 1000000 in
theorem t_Size : ∀ (n : Nat) (t : TNode), SizeOf.sizeOf t < n → sizeN t ≤ 1099511627776 → ∀ {c I F As w} (us : List Value), St c I F As w → Ty_Node.rep (Rd I F) us t →
    Calls Tryd.prog i_tree_Size #[.agg us.toArray] w (callR (fun r w' => r = .int .i64 (sizeN t) ∧ St c I F As w') noP) := by
  intro n
  induction n with
  | zero => intro t h; omega
  | succ n ih =>
    intro t ht hsz c I F As w us hs hr
    obtain ⟨p, op, kids⟩ := t
    obtain ⟨v2, v3, A, cp, rfl, hp, hop, hk, hl⟩ := node_cells hr
    refine c_tree_Size ?_
    unfold n_tree_Size
    refine rBoxS hs _ rfl ?_; clear hs
    intro g w hs
    refine rFA <| rLdS hs rfl <| rLen ?_
    refine rLoop2 (fun x y w' => ∃ k : Nat, y = .int .i64 k ∧ k ≤ kids.length ∧ x = .int .i64 (1 + sizeL (kids.take k)) ∧ St c I F (Cells g _ _ :: As) w') (fun _ y _ => match y with | .int _ k => kids.length - k.toNat | _ => 0) ⟨0, rfl, Nat.zero_le _, by simp [sizeL], hs⟩ ?_
    clear hs
    rintro f w ag hag ⟨k, hk', hkl, hx, hs⟩
    simp only [hk', hx] at hag ⊢
    refine cLss (fun hlt => ?_) (fun hge => ?_)
    · have hkl : k < kids.length := by omega
      refine rTrue <| rKid hk k hkl hs ?_; clear hs
      intro us g2 w hr2 hs
      have h1 := sizeL_kid hkl
      have h2 := size_depth kids[k]
      simp only [sizeN] at hsz
      have hC := ih kids[k] (by have := kid_lt (p := p) (op := op) hkl; omega) (by omega) us hs hr2
      refine rCall hC ?_; clear hC hs
      rintro _ w ⟨rfl, hs⟩
      refine rAdd (by omega) (by omega) <| rAdd (by omega) (by omega) <| hag _ _ _ ⟨k + 1, by simp, by omega, by rw [sizeL_take hkl]; congr 1; omega, hs.drop⟩ (by dsimp only; omega)
    · have : k = kids.length := by omega
      subst this
      rw [List.take_length]
      exact rFalse ⟨by simp only [sizeN], hs.drop⟩
end
end Go.Proofs.YtlbihkgfejgefaaDoor
