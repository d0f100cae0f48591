/- strings.Builder. -/
import Derived.Test.YtlbihkgfejgefaaDoorL17
import Derived.Test.YtlbihkgfejgefaaDoorN0
import Derived.Test.YtlbihkgfejgefaaDoorN3
namespace Go.Proofs.YtlbihkgfejgefaaDoor
open Go L
set_option linter.unusedVariables false

/-- a builder of one's own that holds these bytes -/
def BldH (g : Nat) (bs : List UInt8) : HP := HP.ex fun (x : Value × Value) => HP.sep (HP.pur (x.1 = .pointer none ∨ x.1 = .pointer (some ⟨g, 0, none⟩))) (HP.sep (Cells g [x.1, x.2] T_strings_Builder) (OwnSl Ty.byte T_uint8 x.2 bs))

section
variable {c : World} {I : CM} {F : Hp} {As : List HP} {w : World} {g : Nat} {bs : List UInt8}

theorem BldH.open (hs : St c I F (BldH g bs :: As) w) : ∃ p v, (p = .pointer none ∨ p = .pointer (some ⟨g, 0, none⟩)) ∧ St c I F (Cells g [p, v] T_strings_Builder :: OwnSl Ty.byte T_uint8 v bs :: As) w := by
  obtain ⟨⟨p, v⟩, h⟩ := hs.ex
  obtain ⟨hp, h⟩ := h.sep.pur
  exact ⟨p, v, hp, h.sep⟩
theorem BldH.shut {p v : Value} (hp : p = .pointer none ∨ p = .pointer (some ⟨g, 0, none⟩)) (hs : St c I F (Cells g [p, v] T_strings_Builder :: OwnSl Ty.byte T_uint8 v bs :: As) w) : St c I F (BldH g bs :: As) w :=
  St.toEx (p, v) (St.toPur hp hs.join).join
/-- a new one -/
theorem BldH.new (hs : St c I F (Cells g [.pointer none, .slice none 0 0] T_strings_Builder :: As) w) : St c I F (BldH g [] :: As) w :=
  BldH.shut (.inl rfl) (hs.ownNil Ty.byte T_uint8).p1

theorem b_copyCheck {p v : Value} (hs : St c I F (Cells g [p, v] T_strings_Builder :: As) w) (hp : p = .pointer none ∨ p = .pointer (some ⟨g, 0, none⟩)) :
    Calls Tryd.prog i_strings_Builder_copyCheck #[.pointer (some ⟨g, 0, none⟩)] w (callR (fun r w' => St c I F (Cells g [.pointer (some ⟨g, 0, none⟩), v] T_strings_Builder :: As) w') noP) := by
  refine c_strings_Builder_copyCheck ?_
  unfold n_strings_Builder_copyCheck
  rcases hp with rfl | rfl
  · refine rNil <| rFA <| rLdS hs rfl <| rEqlNN <| rTrue <| rToUns (by decide) hs.blk (by simp) <| rExt (v := .pointer (some ⟨g, 0, none⟩)) (Lib.run_noEscape w _) <| rFromUns hs.blk (by kernel_rfl) <| rNil <| rFA <| rStS hs (by simp) rfl ?_
    intro w hs
    exact hs
  · exact rNil <| rFA <| rLdS hs rfl <| rEqlPN <| rFalse <| rNil <| rFA <| rLdS hs rfl <| rNeqSelf <| rFalse hs

theorem b_WriteByte (x : UInt8) (hs : St c I F (BldH g bs :: As) w) (hl : bs.length < 140737488355328) :
    Calls Tryd.prog i_strings_Builder_WriteByte #[.pointer (some ⟨g, 0, none⟩), .int .u8 (x.toNat : Int)] w (callR (fun r w' => St c I F (BldH g (bs ++ [x]) :: As) w') noP) := by
  refine c_strings_Builder_WriteByte ?_
  unfold n_strings_Builder_WriteByte
  obtain ⟨p, v, hp, hs⟩ := BldH.open hs
  have hC := b_copyCheck hs hp
  refine rCall hC ?_; clear hC hs
  rintro r w hs
  refine rNil <| rFA <| rLdS hs rfl <| rBuildSS hs [.int .u8 (x.toNat : Int)] (by decide) (by kernel_rfl) ?_; clear hs
  intro g1 w hs
  refine rApp1 (x := x) hs.p2.p1 rfl rfl (by rfl) (by decide) (by simp; omega) (by decide) ?_; clear hs
  intro v' w hs
  have h1c : v'.oneCell' = true := by obtain ⟨A, cp, rfl, -⟩ := hs.sl; rfl
  refine rNil <| rFA <| rStS hs.p1 (by simp) h1c ?_; clear hs
  intro w hs
  exact BldH.shut (.inr rfl) hs

theorem b_WriteString (s : ByteArray) (hs : St c I F (BldH g bs :: As) w) (hl : bs.length + s.size ≤ 140737488355328) :
    Calls Tryd.prog i_strings_Builder_WriteString #[.pointer (some ⟨g, 0, none⟩), .string s] w (callR (fun r w' => St c I F (BldH g (bs ++ s.data.toList) :: As) w') noP) := by
  refine c_strings_Builder_WriteString ?_
  unfold n_strings_Builder_WriteString
  obtain ⟨p, v, hp, hs⟩ := BldH.open hs
  have hC := b_copyCheck hs hp
  refine rCall hC ?_; clear hC hs
  rintro r w hs
  refine rNil <| rFA <| rLdS hs rfl <| rAppStrS hs.p1 rfl hl ?_; clear hs
  intro v' w hs
  have h1c : v'.oneCell' = true := by obtain ⟨A, cp, rfl, -⟩ := hs.sl; rfl
  refine rNil <| rFA <| rStS hs.p1 (by simp) h1c ?_; clear hs
  intro w hs
  exact rLenS <| BldH.shut (.inr rfl) hs

theorem b_String (hs : St c I F (BldH g bs :: As) w) :
    Calls Tryd.prog i_strings_Builder_String #[.pointer (some ⟨g, 0, none⟩)] w (callR (fun r w' => r = .string ⟨bs.toArray⟩ ∧ St c I F As w') noP) := by
  refine c_strings_Builder_String ?_
  unfold n_strings_Builder_String
  obtain ⟨p, v, hp, hs⟩ := BldH.open hs
  have hs := hs.drew
  obtain ⟨A, cp, rfl, hc, hc'⟩ := hs.p1.sl
  refine ⟨fun w1 => w1.cell? ⟨g, 1, none⟩ = some (.slice A bs.length cp), hs.cell 1, ?_⟩
  refine rD rfl <| rNil <| rFA <| rHL (fun w1 h1 => h1) ?_
  refine rUSDown hs.p1 ?_; clear hs
  intro q w hq hs
  have hs := hs.p1
  refine ⟨hs.cell 1, ?_⟩
  refine rD rfl <| rNil <| rFA <| rHL (fun w1 h1 => h1) <| rD rfl <| rLen ?_
  by_cases h0 : bs = []
  · subst h0
    exact rUStr0 ⟨rfl, hs.drop.drop⟩
  · rw [hq h0]
    exact rUStr (by kernel_rfl) hs.p1 h0 fun w2 h2 => ⟨rfl, h2.drop⟩
end
end Go.Proofs.YtlbihkgfejgefaaDoor
