/- Lib 18: cuts, quotients, room. -/
import Derived.Test.YtlbihkgfejgefaaDoorL17
namespace Go.Proofs.YtlbihkgfejgefaaDoor.L
open Go Go.RowKit
set_option linter.unusedVariables false

section
variable {P : Program} {Kp : PK} {K : VK} {c : World} {I : CM} {F : Hp} {As : List HP} {w : World}

theorem rCut0 {x : (List Value → World → Prop) → Prop} {rest : Env → World → Prop} (J : World → Prop) (h : ∀ M : List Value → World → Prop, (∀ w, J w → M [] w) → x M) (hk : ∀ f w, J w → rest f w) : nCut [] x rest :=
  ⟨fun _ w => J w, h _ (fun _ h => h), fun f w h => hk f w h⟩
theorem rCut1 {s : Nat} {x : (List Value → World → Prop) → Prop} {rest : Env → World → Prop} (J : Value → World → Prop) (h : ∀ M : List Value → World → Prop, (∀ v w, J v w → M [v] w) → x M) (hk : ∀ f w, J (f s) w → rest f w) : nCut [s] x rest :=
  ⟨fun l w => J (l.headD undef) w, h _ (fun _ _ h => h), fun f w h => hk f w h⟩
theorem rCut2 {s t : Nat} {x : (List Value → World → Prop) → Prop} {rest : Env → World → Prop} (J : Value → Value → World → Prop) (h : ∀ M : List Value → World → Prop, (∀ v u w, J v u w → M [v, u] w) → x M) (hk : ∀ f w, J (f s) (f t) w → rest f w) : nCut [s, t] x rest :=
  ⟨fun l w => J (l.headD undef) (l.tail.headD undef) w, h _ (fun _ _ _ h => h), fun f w h => hk f w h⟩
theorem rCut3 {s t r : Nat} {x : (List Value → World → Prop) → Prop} {rest : Env → World → Prop} (J : Value → Value → Value → World → Prop) (h : ∀ M : List Value → World → Prop, (∀ v u y w, J v u y w → M [v, u, y] w) → x M) (hk : ∀ f w, J (f s) (f t) (f r) w → rest f w) : nCut [s, t, r] x rest :=
  ⟨fun l w => J (l.headD undef) (l.tail.headD undef) (l.tail.tail.headD undef) w, h _ (fun _ _ _ _ h => h), fun f w h => hk f w h⟩

theorem rQuo {t : Nat} {ox oy : Operand} {k : IntKind} {a b : Int} (hb : b ≠ 0) (hk : K (.int k (k.wrap (a.tdiv b))) w) : oBin P .quo t ox oy (.int k a) (.int k b) Kp w K := by
  refine rBin_of ?_ hk
  simp [eqGuard, binOp, Op.intDiv, hb]
theorem rRem {t : Nat} {ox oy : Operand} {k : IntKind} {a b : Int} (hb : b ≠ 0) (hk : K (.int k (a.tmod b)) w) : oBin P .rem t ox oy (.int k a) (.int k b) Kp w K := by
  refine rBin_of ?_ hk
  simp [eqGuard, binOp, Op.intDiv, hb]
theorem wrap64 {a : Int} (h : -9223372036854775808 ≤ a ∧ a ≤ 9223372036854775807) : IntKind.i64.wrap a = a := IntWalk.i64_in _ h

theorem rCap {rt t e sz by_ : Nat} {cs : List Bool} [h : SliceT P t e sz by_] {A : Option Addr} {n c : Nat} (hk : K (.int .i64 c) w) : oBI P .cap #[t] rt cs [.slice A n c] Kp w K := by
  obtain ⟨hu, _⟩ := sliceInfo_spec h.h
  unfold oBI builtin Builtin.cap_
  simp only [List.getElem?_toArray, List.getElem?_cons_zero, Sem.run_bind, run_und hu, Result.andThen_ok]
  exact hk
end
end Go.Proofs.YtlbihkgfejgefaaDoor.L
