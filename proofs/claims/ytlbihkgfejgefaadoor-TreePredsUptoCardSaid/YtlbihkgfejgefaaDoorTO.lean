/- TreePreds. -/
import Derived.Test.YtlbihkgfejgefaaDoorTN
namespace Go.Proofs.YtlbihkgfejgefaaDoor
open Go L
set_option linter.unusedVariables false

section
variable {c : World} {I : CM} {F : Hp} {As : List HP} {w : World}

theorem t_lawform (b : Bool) (hs : St c I F As w) : Calls Tryd.prog i_trommellaw04_form #[.bool b] w (callR (fun r w' => r = .int .i64 (if b then 0 else 1) ∧ St c I F As w') noP) := by
  refine c_trommellaw04_form ?_
  unfold n_trommellaw04_form
  cases b
  · exact rFalse ⟨rfl, hs⟩
  · exact rTrue ⟨rfl, hs⟩

theorem St.init' (w : World) : ∃ F, (∀ b x, w.heap[b]? = some x → F b = some x) ∧ St w (hide w []) F [] w ∧ ∀ {I' : CM} {As : List HP} {w' : World}, St w I' F As w' → Mod [] w w' :=
  ⟨fun b => w.heap[b]?, fun _ _ h => h, St.start w, fun hs => hs.base fun _ _ h => h⟩

theorem law_TreePreds (us : List Value) (p : D_api_Pred) (w : World) (htab : Lib.TabIs Tryd.prog w "internal/strconv.uint64pow10" .u64 Lib.pow10Tab) (hp : Ty_api_Pred.rep (hide w []) us p) (hb : bulk_api_Pred p ≤ 1048576) :
    Calls Tryd.prog i_trommellaw04_TreePreds #[.agg us.toArray] w (callR (fun r w' => r = .bool true ∧ Mod [] w w') noP) := by
  obtain ⟨F, hF, hs, hbase⟩ := St.init' w
  have hT : PowT F := TabF.of htab hF
  generalize hide w [] = I at hp hs
  have hul : us.length = 6 := Ty_api_Pred.len hp
  have hb1 : p.ints.length ≤ 1048576 ∧ p.words.length ≤ 1048576 := by
    have h1 := bulkL_len (fun _ : Int => 1) (fun _ => Nat.le_refl _) p.ints
    have h2 := bulkL_len (fun s : ByteArray => s.size + 1) (fun _ => by omega) p.words
    simp only [bulk_api_Pred] at hb
    omega
  refine c_trommellaw04_TreePreds ?_
  unfold n_trommellaw04_TreePreds
  refine rBoxS hs us rfl ?_; clear hs
  intro g1 w hs
  have hC := t_fixed hT hs
  refine rCall hC ?_; clear hC hs
  rintro _ w ⟨J, rfl, hJ, hs⟩
  refine rNotT <| rFalse <| rLdNS hs hul ?_
  have hp1 := Ty_api_Pred.mono hJ.le hp
  have hC := m_Pred us p hs (Ty_api_Pred.mono (CM.le_rd _ F) hp1) hb1.1 hb1.2
  refine rCall hC ?_; clear hC hs
  rintro _ w ⟨J2, vs, rfl, hJ2, hsp, hs⟩
  have hp2 := Ty_api_Pred.mono hJ2.le hp1
  have hvr := hsp.rep
  have hvl : vs.length = 6 := Ty_api_Pred.len hvr
  refine rAllocS hs [.int .i64 0, .string ⟨#[]⟩, .slice none 0 0, .slice none 0 0, .int .i64 0, .int .i64 0] rfl ?_; clear hs
  intro g3 w hs
  refine rStNS hs hvl (by simp [hvl]) (Ty_api_Pred.one hvr) ?_; clear hs
  intro w hs
  have e : [Value.int .i64 0, .string ⟨#[]⟩, .slice none 0 0, .slice none 0 0, .int .i64 0, .int .i64 0].take 0 ++ vs ++ [Value.int .i64 0, .string ⟨#[]⟩, .slice none 0 0, .slice none 0 0, .int .i64 0, .int .i64 0].drop (0 + vs.length) = vs := by rw [hvl]; simp
  rw [e] at hs
  have hs := hs.drew
  have cell : ∀ {w1 : World} {g : Nat} {cs : List Value}, (∀ j, w1.cell? ⟨g, j, none⟩ = cs[j]?) → ∀ j (hj : j < cs.length), w1.cell? ⟨g, 0 + j, none⟩ = some cs[j] := by
    intro w1 g cs h j hj
    rw [Nat.zero_add, h]; exact List.getElem?_eq_getElem hj
  refine ⟨fun w1 => (∀ j, w1.cell? ⟨g3, j, none⟩ = vs[j]?) ∧ (∀ j, w1.cell? ⟨g1, j, none⟩ = us[j]?), ⟨hs.cell, hs.p1.cell⟩, ?_⟩
  refine rHLN vs hvl (fun w1 h => cell h.1) ?_
  have hC := t_Pred vs p hs (Ty_api_Pred.mono (CM.le_rd _ F) hvr)
  refine rCall hC ?_; clear hC hs
  rintro _ w ⟨rfl, hs⟩
  refine ⟨⟨hs.cell, hs.p1.cell⟩, rHLN us hul (fun w1 h => cell h.2) ?_⟩
  have hC := t_refPred us p hs (Ty_api_Pred.mono (CM.le_rd _ F) hp2)
  refine rCall hC ?_; clear hC hs
  rintro _ w ⟨rfl, hs⟩
  refine ⟨⟨hs.cell, hs.p1.cell⟩, ?_⟩
  have hC := t_lawform (predOk p) hs
  refine rCall hC ?_; clear hC hs
  rintro _ w ⟨rfl, hs⟩
  refine ⟨⟨hs.cell, hs.p1.cell⟩, rD rfl <| rEqlT rfl <| rG1 <| rHLN vs hvl (fun w1 h => cell h.1) <| rG1 <| rHLN us hul (fun w1 h => cell h.2) <| rG1 ?_⟩
  have hC := m_KeptPred vs us p p hs hsp hp2 hb1.1 hb1.2
  refine rCall hC ?_; clear hC hs
  rintro _ w ⟨rfl, hs⟩
  rw [samePredB_self]
  exact rPickT ⟨rfl, hbase hs⟩
end
end Go.Proofs.YtlbihkgfejgefaaDoor
