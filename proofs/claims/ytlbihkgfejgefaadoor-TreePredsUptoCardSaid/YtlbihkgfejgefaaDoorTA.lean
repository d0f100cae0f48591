/- predicates held against each other, copied, kept. -/
import Derived.Test.YtlbihkgfejgefaaDoorL20
import Derived.Test.YtlbihkgfejgefaaDoorM2
import Derived.Test.YtlbihkgfejgefaaDoorD0
import Derived.Test.YtlbihkgfejgefaaDoorT0
namespace Go.Proofs.YtlbihkgfejgefaaDoor
open Go L
set_option linter.unusedVariables false

def samePredB (p q : D_api_Pred) : Bool := decide (p.kind = q.kind) && decide (p.attr = q.attr) && decide (p.lo = q.lo) && decide (p.hi = q.hi) && decide (p.ints = q.ints) && decide (p.words = q.words)
theorem samePredB_self (p : D_api_Pred) : samePredB p p = true := by simp [samePredB]
/-- a copy with room behind each list -/
def PredSp (J : CM) (us : List Value) (p : D_api_Pred) : Prop := ∃ A2 c2 A3 c3, us = [.int .i64 p.kind, .string p.attr, .slice A2 p.ints.length c2, .slice A3 p.words.length c3, .int .i64 p.lo, .int .i64 p.hi] ∧
  (-9223372036854775808 ≤ p.kind ∧ p.kind ≤ 9223372036854775807) ∧ p.attr.size ≤ 140737488355328 ∧ RSl Ty.int J (.slice A2 (p.ints ++ [-77, -78]).length c2) (p.ints ++ [-77, -78]) ∧ RSl Ty.str J (.slice A3 (p.words ++ [spareS, roomS]).length c3) (p.words ++ [spareS, roomS]) ∧
  (-9223372036854775808 ≤ p.lo ∧ p.lo ≤ 9223372036854775807) ∧ (-9223372036854775808 ≤ p.hi ∧ p.hi ≤ 9223372036854775807)
theorem PredSp.mono {I J : CM} {us : List Value} {p : D_api_Pred} (h : PredSp I us p) (hle : CM.le I J) : PredSp J us p := by
  obtain ⟨A2, c2, A3, c3, h0, h1, h2, h3, h4, h5⟩ := h
  exact ⟨A2, c2, A3, c3, h0, h1, h2, h3.mono hle, h4.mono hle, h5⟩
theorem PredSp.rep {J : CM} {us : List Value} {p : D_api_Pred} (h : PredSp J us p) : Ty_api_Pred.rep J us p := by
  obtain ⟨A2, c2, A3, c3, h0, h1, h2, h3, h4, h5, h6⟩ := h
  have e3 := h3.take0 (m := p.ints.length) (by simp)
  have e4 := h4.take0 (m := p.words.length) (by simp)
  rw [List.take_left] at e3 e4
  exact ⟨_, _, h0, h1, h2, e3, e4, h5, h6⟩

section
variable {c : World} {I : CM} {F : Hp} {As : List HP} {w : World}

theorem t_EqualInts (va vb : Value) (la lb : List Int) (hs : St c I F As w) (ha : RS Ty.int (Rd I F) I va la) (hb : RS Ty.int (Rd I F) I vb lb) :
    Calls Tryd.prog i_slices_Equal_int_int #[va, vb] w (callR (fun v w' => v = .bool (decide (la = lb)) ∧ St c I F As w') noP) := by
  obtain ⟨A, ca, hae, _, _, ha'⟩ := ha.parts
  obtain ⟨B, cb, hbe, _, _, hb'⟩ := hb.parts
  rw [hae] at ha ⊢; rw [hbe] at hb ⊢
  refine c_slices_Equal_int_int ?_
  unfold n_slices_Equal_int_int
  refine rLen (rLen (rNeq (rCond (fun h => ?_) fun h => ?_)))
  · refine ⟨?_, hs⟩
    rw [decide_eq_false]; intro e; subst e; omega
  have hnm : la.length = lb.length := by omega
  refine rLen ?_
  refine rLoop1 (fun x w1 => ∃ k : Nat, x = .int .i64 k ∧ k ≤ la.length ∧ la.take k = lb.take k ∧ St c I F As w1) (fun x _ => match x with | .int _ k => la.length - k.toNat | _ => 0) ⟨0, rfl, Nat.zero_le _, rfl, hs⟩ ?_
  clear hs
  rintro f w ag hag ⟨k, hk, hkn, ht, hs⟩
  simp only [hk] at hag ⊢
  refine rLss (rCond (fun hlt => ?_) fun hge => ?_)
  · have hkn : k < la.length := by omega
    obtain ⟨b, o, us, hA, hu, ⟨rfl, _⟩, -⟩ := ha.at (i := k) hkn
    obtain ⟨b', o', us', hB, hu', ⟨rfl, _⟩, -⟩ := hb.at (i := k) (by omega)
    rw [hA, hB]
    have hs := hs.drew
    have h1 := hs.rdCell (hu 0 (by simp))
    have h2 := hs.rdCell (hu' 0 (by simp))
    refine rIA (by omega) (by omega) (rLD (by simpa using h1) (rIA (by omega) (by omega) (rLD (by simpa using h2) (rD rfl (rNeq (rCond (fun h => ?_) fun h => ?_))))))
    · refine ⟨?_, hs⟩
      rw [decide_eq_false]; rintro rfl; exact h rfl
    · refine rAdd (by omega) (by omega) (hag _ _ ⟨k + 1, by simp, by omega, ?_, hs⟩ (by dsimp only; omega))
      rw [List.take_succ_eq_append_getElem (by omega), List.take_succ_eq_append_getElem (by omega), ht]
      simp at h; rw [h]
  · refine ⟨?_, hs⟩
    have : k = la.length := by omega
    subst this
    rw [List.take_of_length_le (by omega), List.take_of_length_le (by omega)] at ht
    rw [decide_eq_true ht]

theorem t_EqualStrs (va vb : Value) (la lb : List ByteArray) (hs : St c I F As w) (ha : RS Ty.str (Rd I F) I va la) (hb : RS Ty.str (Rd I F) I vb lb) :
    Calls Tryd.prog i_slices_Equal_string_string #[va, vb] w (callR (fun v w' => v = .bool (decide (la = lb)) ∧ St c I F As w') noP) := by
  obtain ⟨A, ca, hae, _, _, ha'⟩ := ha.parts
  obtain ⟨B, cb, hbe, _, _, hb'⟩ := hb.parts
  rw [hae] at ha ⊢; rw [hbe] at hb ⊢
  refine c_slices_Equal_string_string ?_
  unfold n_slices_Equal_string_string
  refine rLen (rLen (rNeq (rCond (fun h => ?_) fun h => ?_)))
  · refine ⟨?_, hs⟩
    rw [decide_eq_false]; intro e; subst e; omega
  have hnm : la.length = lb.length := by omega
  refine rLen ?_
  refine rLoop1 (fun x w1 => ∃ k : Nat, x = .int .i64 k ∧ k ≤ la.length ∧ la.take k = lb.take k ∧ St c I F As w1) (fun x _ => match x with | .int _ k => la.length - k.toNat | _ => 0) ⟨0, rfl, Nat.zero_le _, rfl, hs⟩ ?_
  clear hs
  rintro f w ag hag ⟨k, hk, hkn, ht, hs⟩
  simp only [hk] at hag ⊢
  refine rLss (rCond (fun hlt => ?_) fun hge => ?_)
  · have hkn : k < la.length := by omega
    obtain ⟨b, o, us, hA, hu, ⟨rfl, _⟩, -⟩ := ha.at (i := k) hkn
    obtain ⟨b', o', us', hB, hu', ⟨rfl, _⟩, -⟩ := hb.at (i := k) (by omega)
    rw [hA, hB]
    have hs := hs.drew
    have h1 := hs.rdCell (hu 0 (by simp))
    have h2 := hs.rdCell (hu' 0 (by simp))
    refine rIA (by omega) (by omega) (rLD (by simpa using h1) (rIA (by omega) (by omega) (rLD (by simpa using h2) (rD rfl (rNeqS (rCond (fun h => ?_) fun h => ?_))))))
    · refine ⟨?_, hs⟩
      rw [decide_eq_false]; rintro rfl; exact h rfl
    · refine rAdd (by omega) (by omega) (hag _ _ ⟨k + 1, by simp, by omega, ?_, hs⟩ (by dsimp only; omega))
      rw [List.take_succ_eq_append_getElem (by omega), List.take_succ_eq_append_getElem (by omega), ht]
      simp at h; rw [h]
  · refine ⟨?_, hs⟩
    have : k = la.length := by omega
    subst this
    rw [List.take_of_length_le (by omega), List.take_of_length_le (by omega)] at ht
    rw [decide_eq_true ht]

theorem m_SamePred (us vs : List Value) (p q : D_api_Pred) (hs : St c I F As w) (hp : Ty_api_Pred.rep (Rd I F) us p) (hq : Ty_api_Pred.rep (Rd I F) vs q) :
    Calls Tryd.prog i_trommelmem_SamePred #[.agg us.toArray, .agg vs.toArray] w (callR (fun r w' => r = .bool (samePredB p q) ∧ St c I F As w') noP) := by
  obtain ⟨v2, v3, hus, -, -, h2, h3, -, -⟩ := hp
  obtain ⟨u2, u3, hvs, -, -, k2, k3, -, -⟩ := hq
  subst hus hvs
  refine c_trommelmem_SamePred ?_
  unfold n_trommelmem_SamePred
  refine rBoxS hs _ rfl ?_; clear hs
  intro g1 w hs
  refine rBoxS hs _ rfl ?_; clear hs
  intro g2 w hs
  have hs1 := hs.p1
  repeat' (first | refine rG1 ?_ | refine rG0 ?_ | refine rPickT ?_ | refine rPickF ?_ | refine rFA ?_ | refine rLdS hs rfl ?_ | refine rLdS hs1 rfl ?_ | refine cEql (fun _ => ?_) (fun _ => ?_) | refine cEqlS (fun _ => ?_) (fun _ => ?_))
  any_goals (refine ⟨congrArg Value.bool ?_, hs.drop.drop⟩; simp only [samePredB]; simp [*]; done)
  have hC := m_SameInts _ _ _ _ hs (RS.flat flat_int h2.rs) (RS.flat flat_int k2.rs)
  refine rCall hC ?_; clear hC hs hs1
  rintro r w ⟨hr, hs⟩
  have hs1 := hs.p1
  by_cases he : p.ints = q.ints
  · rw [decide_eq_true he] at hr; subst hr
    repeat' (first | refine rG1 ?_ | refine rG0 ?_ | refine rPickT ?_ | refine rPickF ?_ | refine rFA ?_ | refine rLdS hs rfl ?_ | refine rLdS hs1 rfl ?_)
    have hC := m_SameWords _ _ _ _ hs (RS.flat flat_str h3.rs) (RS.flat flat_str k3.rs)
    refine rCall hC ?_; clear hC hs hs1
    rintro r w ⟨hr, hs⟩
    subst hr
    repeat' (first | refine rG1 ?_ | refine rG0 ?_ | refine rPickT ?_ | refine rPickF ?_)
    refine ⟨congrArg Value.bool ?_, hs.drop.drop⟩
    simp only [samePredB]; simp [*]
  · rw [decide_eq_false he] at hr; subst hr
    repeat' (first | refine rG1 ?_ | refine rG0 ?_ | refine rPickT ?_ | refine rPickF ?_)
    refine ⟨congrArg Value.bool ?_, hs.drop.drop⟩
    simp only [samePredB]; simp [*]

theorem t_samePred (us vs : List Value) (p q : D_api_Pred) (hs : St c I F As w) (hp : Ty_api_Pred.rep (Rd I F) us p) (hq : Ty_api_Pred.rep (Rd I F) vs q) :
    Calls Tryd.prog i_tree_samePred #[.agg us.toArray, .agg vs.toArray] w (callR (fun r w' => r = .bool (samePredB p q) ∧ St c I F As w') noP) := by
  obtain ⟨v2, v3, hus, -, -, h2, h3, -, -⟩ := hp
  obtain ⟨u2, u3, hvs, -, -, k2, k3, -, -⟩ := hq
  subst hus hvs
  refine c_tree_samePred ?_
  unfold n_tree_samePred
  refine rBoxS hs _ rfl ?_; clear hs
  intro g1 w hs
  refine rBoxS hs _ rfl ?_; clear hs
  intro g2 w hs
  have hs1 := hs.p1
  repeat' (first | refine rG1 ?_ | refine rG0 ?_ | refine rPickT ?_ | refine rPickF ?_ | refine rFA ?_ | refine rLdS hs rfl ?_ | refine rLdS hs1 rfl ?_ | refine cEql (fun _ => ?_) (fun _ => ?_) | refine cEqlS (fun _ => ?_) (fun _ => ?_))
  any_goals (refine ⟨congrArg Value.bool ?_, hs.drop.drop⟩; simp only [samePredB]; simp [*]; done)
  have hC := t_EqualInts _ _ _ _ hs (RS.flat flat_int h2.rs) (RS.flat flat_int k2.rs)
  refine rCall hC ?_; clear hC hs hs1
  rintro r w ⟨hr, hs⟩
  have hs1 := hs.p1
  by_cases he : p.ints = q.ints
  · rw [decide_eq_true he] at hr; subst hr
    repeat' (first | refine rG1 ?_ | refine rG0 ?_ | refine rPickT ?_ | refine rPickF ?_ | refine rFA ?_ | refine rLdS hs rfl ?_ | refine rLdS hs1 rfl ?_)
    have hC := t_EqualStrs _ _ _ _ hs (RS.flat flat_str h3.rs) (RS.flat flat_str k3.rs)
    refine rCall hC ?_; clear hC hs hs1
    rintro r w ⟨hr, hs⟩
    subst hr
    repeat' (first | refine rG1 ?_ | refine rG0 ?_ | refine rPickT ?_ | refine rPickF ?_)
    refine ⟨congrArg Value.bool ?_, hs.drop.drop⟩
    simp only [samePredB]; simp [*]
  · rw [decide_eq_false he] at hr; subst hr
    repeat' (first | refine rG1 ?_ | refine rG0 ?_ | refine rPickT ?_ | refine rPickF ?_)
    refine ⟨congrArg Value.bool ?_, hs.drop.drop⟩
    simp only [samePredB]; simp [*]

theorem m_Pred (us : List Value) (p : D_api_Pred) (hs : St c I F As w) (hp : Ty_api_Pred.rep (Rd I F) us p) (h1 : p.ints.length ≤ 1048576) (h2 : p.words.length ≤ 1048576) :
    Calls Tryd.prog i_trommelmem_Pred #[.agg us.toArray] w (callR (fun r w' => ∃ J vs, r = .agg vs.toArray ∧ Gr F I J ∧ PredSp J vs p ∧ St c J F As w') noP) := by
  obtain ⟨v2, v3, hus, k0, k1, k2, k3, k4, k5⟩ := hp
  subst hus
  refine c_trommelmem_Pred ?_
  unfold n_trommelmem_Pred
  refine rBoxS hs _ rfl ?_; clear hs
  intro g1 w hs
  refine rAllocS hs [.int .i64 0, .string ⟨#[]⟩, .slice none 0 0, .slice none 0 0, .int .i64 0, .int .i64 0] rfl ?_; clear hs
  intro g2 w hs
  refine rFA <| rLdS hs.p1 rfl ?_
  have hC := m_Ints _ _ hs (RS.flat flat_int k2.rs) h1
  refine rCall hC ?_; clear hC hs
  rintro r1 w hs
  obtain ⟨A2, c2, hr1, hs'⟩ := OwnSp.open hs
  clear hs
  rw [hr1]; clear hr1
  obtain ⟨J, hJ, r2, hs⟩ := hs'.lastSl (by simp; omega)
  refine rFA <| rStS hs.p1 (by simp) rfl ?_; clear hs
  intro w hs
  refine rFA <| rLdS hs rfl ?_
  have hC := m_Words _ _ hs (RS.flat flat_str (k3.rs.mono hJ.rd hJ.rd)) h2
  refine rCall hC ?_; clear hC hs
  rintro r1 w hs
  obtain ⟨A3, c3, hr1, hs'⟩ := OwnSp.open hs
  clear hs
  rw [hr1]; clear hr1
  obtain ⟨J2, hJ2, r3, hs⟩ := hs'.lastSl (by simp; omega)
  refine rFA <| rStS hs (by simp) rfl ?_; clear hs
  intro w hs
  refine rLdNS hs rfl ?_
  refine rStNS hs.p1 rfl (by simp) (by intro v hv; simp at hv; rcases hv with rfl | rfl | rfl | rfl | rfl | rfl <;> rfl) ?_; clear hs
  intro w hs
  refine rRLNS hs rfl ?_
  exact ⟨J2, _, rfl, hJ.trans hJ2, ⟨A2, c2, A3, c3, rfl, k0, k1, r2.mono hJ2.le, r3, k4, k5⟩, hs.drop.drop⟩

theorem m_KeptPred (us vs : List Value) (p q : D_api_Pred) (hs : St c I F As w) (hp : PredSp I us p) (hq : Ty_api_Pred.rep I vs q) (h1 : p.ints.length ≤ 1048576) (h2 : p.words.length ≤ 1048576) :
    Calls Tryd.prog i_trommelmem_KeptPred #[.agg us.toArray, .agg vs.toArray] w (callR (fun r w' => r = .bool (samePredB p q) ∧ St c I F As w') noP) := by
  have hp0 := hp.rep
  have hq0 := hq
  obtain ⟨A2, c2, A3, c3, hus, -, -, k2, k3, -, -⟩ := hp
  obtain ⟨u2, u3, hvs, -, -, l2, l3, -, -⟩ := hq
  subst hus hvs
  refine c_trommelmem_KeptPred ?_
  unfold n_trommelmem_KeptPred
  refine rBoxS hs _ rfl ?_; clear hs
  intro g1 w hs
  refine rBoxS hs _ rfl ?_; clear hs
  intro g2 w hs
  refine rLdNS hs.p1 rfl <| rLdNS hs rfl ?_
  have hC := m_SamePred _ _ _ _ hs (Ty_api_Pred.mono (CM.le_rd I F) hp0) (Ty_api_Pred.mono (CM.le_rd I F) hq0)
  refine rCall hC ?_; clear hC hs
  rintro r w ⟨hr, hs⟩
  have hs1 := hs.p1
  cases hb : samePredB p q with
  | false =>
    rw [hb] at hr; subst hr
    repeat' (first | refine rG1 ?_ | refine rG0 ?_ | refine rPickT ?_ | refine rPickF ?_)
    exact ⟨rfl, hs.drop.drop⟩
  | true =>
    rw [hb] at hr; subst hr
    have he : p.ints = q.ints ∧ p.words = q.words := by simp [samePredB] at hb; exact ⟨hb.1.2, hb.2⟩
    repeat' (first | refine rG1 ?_ | refine rG0 ?_ | refine rPickT ?_ | refine rPickF ?_ | refine rFA ?_ | refine rLdS hs rfl ?_ | refine rLdS hs1 rfl ?_)
    have hC := m_KeptInts _ _ _ _ _ hs k2.rd l2.rd h1
    refine rCall hC ?_; clear hC hs hs1
    rintro r w ⟨hr, hs⟩
    have hs1 := hs.p1
    rw [decide_eq_true he.1] at hr; subst hr
    repeat' (first | refine rG1 ?_ | refine rG0 ?_ | refine rPickT ?_ | refine rPickF ?_ | refine rFA ?_ | refine rLdS hs rfl ?_ | refine rLdS hs1 rfl ?_)
    have hC := m_KeptWords _ _ _ _ _ hs k3.rd l3.rd h2
    refine rCall hC ?_; clear hC hs hs1
    rintro r w ⟨hr, hs⟩
    rw [decide_eq_true he.2] at hr; subst hr
    repeat' (first | refine rG1 ?_ | refine rG0 ?_ | refine rPickT ?_ | refine rPickF ?_)
    exact ⟨rfl, hs.drop.drop⟩
end
end Go.Proofs.YtlbihkgfejgefaaDoor
