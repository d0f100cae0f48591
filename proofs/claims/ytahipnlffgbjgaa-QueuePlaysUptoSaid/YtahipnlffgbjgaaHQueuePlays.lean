/- QueuePlays: where its arguments hold together at most 1048576 values and letters, the law answers true and leaves its arguments as they were. Conditions: that bound alone. -/
import Derived.Test.YtahipnlffgbjgaaD0
import Derived.Test.YtahipnlffgbjgaaS6
namespace Go.Proofs.Ytahipnlffgbjgaa.hQueuePlays
open Go L Go.ChangeShapes Go.WideShapes Go.ChangeAt Go.RowKit
set_option linter.unusedVariables false

theorem contract (H : Type) (enc : TypeId × Value → H) (W : World) (base : Nat) (args : Array Value) (ds gs : List (DataW H)) (before : List MemPlace)
    (hval : ∀ (j : Nat) t v, Try.f5.params[j]? = some t → args[j]? = some v → Value.okWide Try.prog W .any base t v)
    (hW : DataW.Whole enc Try.prog Try.f5.params.toList Rows.queuePlaysSpec.vars false W args.toList ds gs before) (hk : Rows.uptoSmall H (ds ++ gs) = true) :
    Calls Try.prog 5 args W fun e W' => ∃ v, e = .returned v ∧ Rows.queuePlaysSpec.post enc Try.prog Try.f5 false true false false W args v W' := by
  obtain ⟨p, q, hA0, hV, hq, hfz, hnd⟩ := id hW
  have hA : DataW.TrodAll enc Try.prog W 0 (fun _ => true) true Try.f5.params.toList args.toList ds p := hA0
  rw [Try.params5] at hA hval
  obtain ⟨v0, vs0, d0, ds0, p0, q0, hargs, rfl, rfl, h0, r0⟩ := trodAll_cons hA
  obtain ⟨rfl, rfl, rfl⟩ := trodAll_nil r0
  obtain rfl : args = #[v0] := by cases args; simp_all
  obtain ⟨rfl, rfl⟩ := trodVars_none hV
  have hbk := bulk_of hk
  simp only [List.append_nil, Rows.uptoBulkAll] at hbk
  have o44 : Opens Try.prog Ty_trommellaw21_Op bulk_trommellaw21_Op 44 := opens_trommellaw21_Op
  have o36 : Opens Try.prog (Ty.slice Ty_trommellaw21_Op) (fun l => bulkL bulk_trommellaw21_Op l + 1) 36 := opens_slice (e := 44) o44 (by kernel_rfl) (by kernel_rfl) (by decide)
  obtain ⟨a0, w0, b0⟩ := arg_slice (e := 44) (by kernel_rfl) o36 (hval 0 36 v0 rfl rfl) h0 (by omega)
  refine law_post (tb := 4) laidOut (by kernel_rfl) rfl (by kernel_rfl) (by kernel_rfl) ⟨rfl, rfl, rfl⟩ hW ?_
  refine law_QueuePlays v0 a0 W w0 ?_
  clear hk hW hA hV hfz hnd hval
  omega

set_option maxRecDepth 100000 in
theorem lifted (os : Os) (started : os.Started) (H : Type) (enc : TypeId × Value → H) (F : Stop.Interp) :
    ReturnsInHanded {} Try.checked os 5 .any ((Rows.OpenSpec.upto Rows.queuePlaysSpec).pre6 enc Try.prog Try.f5 Rows.queuePlaysUptoRow.domain false) (((Rows.OpenSpec.upto Rows.queuePlaysSpec).at F).post enc Try.prog Try.f5 false true false false) := by
  refine returnsInHanded_of_cond (C := Try.checked) (s := Rows.OpenSpec.upto Rows.queuePlaysSpec) (k := Rows.uptoSmall) rfl ownk started (by kernel_rfl) Try.func5
    (OpenSpec.witness (enc := enc) (C := Try.checked) (s := Rows.OpenSpec.upto Rows.queuePlaysSpec) (k := Rows.uptoSmall) rfl false ⟨#[], #[.slice none 0 0], []⟩ 12 (by kernel_rfl) (by kernel_rfl) (by kernel_rfl)
      (x := ([.nil], [], [])) (by kernel_rfl) rfl (by kernel_rfl)) ?_
  intro W base args ds gs before hval hW _ hk _
  exact contract H enc W base args ds gs before hval hW hk

theorem proved : Rows.QueuePlaysUptoSaid :=
  OpenClaim.holds_of_cond 5 Try.f5 rfl rfl rfl rfl rfl rfl rfl ⟨rfl, rfl, rfl, rfl, rfl⟩ rfl rfl rfl rfl rfl (by kernel_rfl) Try.func5 (by kernel_rfl)
    (of_decide_eq_true (by kernel_rfl)) (by unfold Func.isWrapper; first | (rw [if_pos (by decide +kernel)]; kernel_rfl) | (rw [if_neg (by decide +kernel)]; exact ⟨rfl, rfl⟩))
    (fun os started H enc _ F => lifted os started H enc F)
end Go.Proofs.Ytahipnlffgbjgaa.hQueuePlays
#print axioms Go.Proofs.Ytahipnlffgbjgaa.hQueuePlays.proved
