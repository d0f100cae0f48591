/- tree.Pred. -/
import Derived.Test.YtlbihkgfejgefaaDoorTB
namespace Go.Proofs.YtlbihkgfejgefaaDoor
open Go L
set_option linter.unusedVariables false

def kindOk (p : D_api_Pred) : Bool :=
  if p.kind = 1 then [decide (0 < (p.ints.length : Int)), decide ((p.ints.length : Int) ≤ 64), decide ((p.words.length : Int) = 0), decide (p.lo = 0) && decide (p.hi = 0)].all id
  else if p.kind = 2 then [decide (0 < (p.words.length : Int)), decide ((p.words.length : Int) ≤ 64), decide ((p.ints.length : Int) = 0), decide (p.lo = 0) && decide (p.hi = 0)].all id
  else if p.kind = 3 then [decide ((p.ints.length : Int) = 0), decide ((p.words.length : Int) = 0), numOk p.lo, numOk p.hi].all id
  else if p.kind = 4 then [decide ((p.words.length : Int) = 1), decide ((p.ints.length : Int) = 0), decide (p.lo = 0) && decide (p.hi = 0)].all id
  else false
def predOk (p : D_api_Pred) : Bool := nameOk p.attr && p.ints.all numOk && p.words.all wordOk && kindOk p

section
variable {c : World} {I : CM} {F : Hp} {As : List HP} {w : World}

theorem L.St.bools {l : List Bool} {g E : Nat} (hs : St c I F (Cells g (l.map Value.bool) E :: As) w) (hl : l.length ≤ 140737488355328) (n : Nat) (hn : n = l.length) :
    St c I F (OwnSl Ty.bool E (.slice (some ⟨g, 0, none⟩) n n) l :: As) w :=
  hs.toSl (T := Ty.bool) (l := l) n (l.map fun x => [Value.bool x]) (by
    clear hs hl hn; induction l with
    | nil => rfl
    | cons x l ih => simp [← ih]) hn (by simp) (fun i h h' => by rw [List.getElem_map]; exact rfl) (by simp only [maxLen]; omega)

/-- form of a literal list -/
theorem rForm {t e by_ : Nat} [h : SliceT Tryd.prog t e 1 by_] {z : Value} [hz : ZeroT Tryd.prog e z] {n : Nat} {ps : List (Nat × Value)} {K : VK} {Kp : PK} (l : List Bool) (hs : St c I F As w) (hsmall : n * 1 ≤ 16777216)
    (hf : Instr.fill (fun i => some (i * 1, 1)) ((Array.range (n * 1)).map ((if n * 1 = 0 then #[] else z.cells)[· % (if n * 1 = 0 then (#[] : Array Value) else z.cells).size]!)) ps = some (l.map Value.bool).toArray) (hn : n = l.length) (hl : l.length ≤ 16)
    (hk : ∀ w', St c I F As w' → K (.int .i64 (if l.all id then 0 else 1)) w') : oBuildS Tryd.prog t n ps Kp w fun t47 w => oCall Tryd.prog i_tree_form [t47] Kp w K := by
  refine rBuildSS hs _ hsmall hf ?_; clear hs
  intro g w hs
  have hs1 := hs.bools (by omega) n hn
  obtain ⟨F', hF, hr, hs2, back⟩ := hs1.lendSl (by omega)
  have hC := t_form _ _ hs2 hr
  refine rCall hC ?_; clear hC hs hs1 hs2
  rintro _ w ⟨rfl, hs⟩
  obtain ⟨-, hs⟩ := back _ _ _ (Gr.refl _ _) hs
  exact hk w hs.drop

set_option maxHeartbeats 2000000 in
theorem t_Pred (us : List Value) (p : D_api_Pred) (hs : St c I F As w) (hp : Ty_api_Pred.rep (Rd I F) us p) :
    Calls Tryd.prog i_tree_Pred #[.agg us.toArray] w (callR (fun r w' => r = .int .i64 (if predOk p then 0 else 1) ∧ St c I F As w') noP) := by
  obtain ⟨v2, v3, hus, -, k1, k2, k3, -, -⟩ := hp
  subst hus
  obtain ⟨A2, c2, hv2, -, -, hl2⟩ := k2.rs.parts
  obtain ⟨A3, c3, hv3, -, -, hl3⟩ := k3.rs.parts
  have k2' := RS.flat (J := I) flat_int k2.rs
  have k3' := RS.flat (J := I) flat_str k3.rs
  subst hv2 hv3
  refine c_tree_Pred ?_
  unfold n_tree_Pred
  refine rBoxS hs _ rfl ?_; clear hs
  intro g w hs
  have hd := hs.drew
  refine rFA <| rLDS hd rfl <| rD rfl <| rLen <| rFA <| rLDS hd rfl <| rD rfl <| rLen ?_
  clear hs
  generalize w.drew = w at hd
  have hfin : ∀ {X : HP} b w', b = (if predOk p then (0 : Int) else 1) → St c I F (X :: As) w' →
      Value.int .i64 b = .int .i64 (if predOk p then 0 else 1) ∧ St c I F As w' := fun b w' hb h => ⟨by rw [hb], h.drop⟩
  have hfi : ∀ {As : List HP} (x : Int) w K, St c I F As w → (∀ w', St c I F As w' → K (.bool (numOk x)) w') → oCallV Tryd.prog (.func (.func i_tree_number) #[] #[]) [.int .i64 x] noP w K := fun x w K h hk => rCallF (t_number x h) (by rintro _ w ⟨rfl, h⟩; exact hk _ h)
  have hfs : ∀ {As : List HP} (x : ByteArray) w K, St c I F As w → (∀ w', St c I F As w' → K (.bool (wordOk x)) w') → oCallV Tryd.prog (.func (.func i_tree_word) #[] #[]) [.string x] noP w K := fun x w K h hk => rCallF (t_word x h) (by rintro _ w ⟨rfl, h⟩; exact hk _ h)
  repeat' (first | refine rG1 ?_ | refine rG0 ?_ | refine rPickT ?_ | refine rPickF ?_ | refine rFA ?_ | refine rLdS hd rfl ?_ | refine rNotT ?_ | refine rNotF ?_ | refine rTrue ?_ | refine rFalse ?_ | refine cEql (fun _ => ?_) (fun _ => ?_))
  all_goals
    have hC := t_Name p.attr k1 hd
    refine rCall hC ?_
    clear hC hd
    rintro r w ⟨hr, hd⟩
    cases hb1 : nameOk p.attr <;> (rw [hb1] at hr; subst hr)
    · repeat' (first | refine rG1 ?_ | refine rG0 ?_ | refine rPickT ?_ | refine rPickF ?_ | refine rFA ?_ | refine rLdS hd rfl ?_ | refine rNotT ?_ | refine rNotF ?_ | refine rTrue ?_ | refine rFalse ?_)
      exact hfin _ _ (by simp [predOk, hb1]) hd
    repeat' (first | refine rG1 ?_ | refine rG0 ?_ | refine rPickT ?_ | refine rPickF ?_ | refine rFA ?_ | refine rLdS hd rfl ?_ | refine rNotT ?_ | refine rNotF ?_ | refine rTrue ?_ | refine rFalse ?_)
    have hC := t_every_int numOk i_tree_number _ _ hfi hd k2'
    refine rCall hC ?_
    clear hC hd
    rintro r w ⟨hr, hd⟩
    cases hb2 : p.ints.all numOk <;> (rw [hb2] at hr; subst hr)
    · repeat' (first | refine rG1 ?_ | refine rG0 ?_ | refine rPickT ?_ | refine rPickF ?_ | refine rFA ?_ | refine rLdS hd rfl ?_ | refine rNotT ?_ | refine rNotF ?_ | refine rTrue ?_ | refine rFalse ?_)
      exact hfin _ _ (by simp only [predOk, hb1, hb2]; simp) hd
    repeat' (first | refine rG1 ?_ | refine rG0 ?_ | refine rPickT ?_ | refine rPickF ?_ | refine rFA ?_ | refine rLdS hd rfl ?_ | refine rNotT ?_ | refine rNotF ?_ | refine rTrue ?_ | refine rFalse ?_)
    have hC := t_every_string wordOk i_tree_word _ _ hfs hd k3'
    refine rCall hC ?_
    clear hC hd
    rintro r w ⟨hr, hd⟩
    cases hb3 : p.words.all wordOk <;> (rw [hb3] at hr; subst hr)
    · repeat' (first | refine rG1 ?_ | refine rG0 ?_ | refine rPickT ?_ | refine rPickF ?_ | refine rFA ?_ | refine rLdS hd rfl ?_ | refine rNotT ?_ | refine rNotF ?_ | refine rTrue ?_ | refine rFalse ?_)
      exact hfin _ _ (by simp only [predOk, hb1, hb2, hb3]; simp) hd
    repeat' (first | refine rG1 ?_ | refine rG0 ?_ | refine rPickT ?_ | refine rPickF ?_ | refine rFA ?_ | refine rLdS hd rfl ?_ | refine rNotT ?_ | refine rNotF ?_ | refine rTrue ?_ | refine rFalse ?_)
    have hpk : predOk p = kindOk p := by simp only [predOk, hb1, hb2, hb3, Bool.true_and]
    rw [hpk] at hfin ⊢
    refine cEql (fun e1 => ?_) (fun e1 => ?_)
    · refine rTrue <| rGtr <| rLeq <| rEql ?_
      first
        | have hbd : (decide (p.lo = 0) && decide (p.hi = 0)) = true := by simp [*]
          refine rForm [decide (0 < (p.ints.length : Int)), decide ((p.ints.length : Int) ≤ 64), decide ((p.words.length : Int) = 0), true] hd (by decide) (by kernel_rfl) rfl (by simp) fun w' h => hfin _ _ ?_ h
        | have hbd : (decide (p.lo = 0) && decide (p.hi = 0)) = false := by simp [*]
          refine rForm [decide (0 < (p.ints.length : Int)), decide ((p.ints.length : Int) ≤ 64), decide ((p.words.length : Int) = 0), false] hd (by decide) (by kernel_rfl) rfl (by simp) fun w' h => hfin _ _ ?_ h
      simp [kindOk, e1, *]
    refine rFalse <| cEql (fun e2 => ?_) (fun e2 => ?_)
    · refine rTrue <| rGtr <| rLeq <| rEql ?_
      first
        | have hbd : (decide (p.lo = 0) && decide (p.hi = 0)) = true := by simp [*]
          refine rForm [decide (0 < (p.words.length : Int)), decide ((p.words.length : Int) ≤ 64), decide ((p.ints.length : Int) = 0), true] hd (by decide) (by kernel_rfl) rfl (by simp) fun w' h => hfin _ _ ?_ h
        | have hbd : (decide (p.lo = 0) && decide (p.hi = 0)) = false := by simp [*]
          refine rForm [decide (0 < (p.words.length : Int)), decide ((p.words.length : Int) ≤ 64), decide ((p.ints.length : Int) = 0), false] hd (by decide) (by kernel_rfl) rfl (by simp) fun w' h => hfin _ _ ?_ h
      simp [kindOk, e1, e2, *]
    refine rFalse <| cEql (fun e3 => ?_) (fun e3 => ?_)
    · refine rTrue ?_
      have hd := hd.drew
      refine ⟨fun w1 => w1.cell? ⟨g, 4, none⟩ = some (.int .i64 p.lo) ∧ w1.cell? ⟨g, 5, none⟩ = some (.int .i64 p.hi), ⟨hd.cell 4, hd.cell 5⟩, ?_⟩
      refine rD rfl <| rEql <| rD rfl <| rEql <| rFA <| rHL (fun w1 h1 => h1.1) ?_
      have hC := t_number p.lo hd
      refine rCall hC ?_
      clear hC hd
      rintro r w ⟨rfl, hd⟩
      refine ⟨⟨hd.cell 4, hd.cell 5⟩, ?_⟩
      refine rFA <| rHL (fun w1 h1 => h1.2) ?_
      have hC := t_number p.hi hd
      refine rCall hC ?_
      clear hC hd
      rintro r w ⟨rfl, hd⟩
      refine rForm [decide ((p.ints.length : Int) = 0), decide ((p.words.length : Int) = 0), numOk p.lo, numOk p.hi] hd (by decide) (by kernel_rfl) rfl (by simp) fun w' h => hfin _ _ ?_ h
      simp [kindOk, e1, e2, e3]
    refine rFalse <| cEql (fun e4 => ?_) (fun e4 => ?_)
    · refine rTrue <| rEql <| rEql ?_
      first
        | have hbd : (decide (p.lo = 0) && decide (p.hi = 0)) = true := by simp [*]
          refine rForm [decide ((p.words.length : Int) = 1), decide ((p.ints.length : Int) = 0), true] hd (by decide) (by kernel_rfl) rfl (by simp) fun w' h => hfin _ _ ?_ h
        | have hbd : (decide (p.lo = 0) && decide (p.hi = 0)) = false := by simp [*]
          refine rForm [decide ((p.words.length : Int) = 1), decide ((p.ints.length : Int) = 0), false] hd (by decide) (by kernel_rfl) rfl (by simp) fun w' h => hfin _ _ ?_ h
      simp [kindOk, e1, e2, e3, e4, *]
    · exact rFalse (hfin _ _ (by simp [kindOk, e1, e2, e3, e4]) hd)
end
end Go.Proofs.YtlbihkgfejgefaaDoor
