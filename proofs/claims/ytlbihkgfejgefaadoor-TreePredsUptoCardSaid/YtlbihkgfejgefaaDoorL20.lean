/- Lib 20: whole structs of one's own, loaded; what a call answers, where it is a result cell. -/
import Derived.Test.YtlbihkgfejgefaaDoorL19
namespace Go.Proofs.YtlbihkgfejgefaaDoor.L
open Go Go.RowKit
set_option linter.unusedVariables false

section
variable {P : Program} {Kp : PK} {K : VK} {c : World} {I : CM} {F : Hp} {As : List HP} {w : World}

theorem rLdNS {t n : Nat} [h : AggN P t n] {g : Nat} {cs : List Value} {E : Nat} (hs : St c I F (Cells g cs E :: As) w) (hl : cs.length = n) (hk : K (.agg cs.toArray) w) : oLoad P t (.pointer (some ⟨g, 0, none⟩)) Kp w K :=
  rLoadN cs hl (fun j hj => by rw [hs.cell, Nat.zero_add]; exact List.getElem?_eq_getElem hj) hk
theorem rRLNS {t n : Nat} [h : AggN P t n] {g : Nat} {cs : List Value} {E : Nat} {K : Value → Prop} (hs : St c I F (Cells g cs E :: As) w) (hl : cs.length = n) (hk : K (.agg cs.toArray)) : oRL P t (.pointer (some ⟨g, 0, none⟩)) w K := by
  have hr := run_load_agg (P := P) (w := w) h.h (b := g) (o := 0) hl (fun j hj => by rw [hs.cell, Nat.zero_add]; exact List.getElem?_eq_getElem hj)
  exact ⟨_, hr, hk⟩
end
end Go.Proofs.YtlbihkgfejgefaaDoor.L
