/- QueueTypes: where its arguments hold together at most 1048576 values and letters, the law answers true and leaves its arguments as they were. Conditions: that bound alone. -/
import Derived.Test.YtahipnlffgbjgaaD0
import Derived.Test.YtahipnlffgbjgaaS2
namespace Go.Proofs.Ytahipnlffgbjgaa.hQueueTypes
open Go L Go.ChangeShapes Go.WideShapes Go.ChangeAt Go.RowKit
set_option linter.unusedVariables false

theorem contract (H : Type) (enc : TypeId × Value → H) (W : World) (base : Nat) (args : Array Value) (ds gs : List (DataW H)) (before : List MemPlace)
    (hval : ∀ (j : Nat) t v, Try.f4.params[j]? = some t → args[j]? = some v → Value.okWide Try.prog W .any base t v)
    (hW : DataW.Whole enc Try.prog Try.f4.params.toList Rows.queueTypesSpec.vars false W args.toList ds gs before) (hk : Rows.uptoSmall H (ds ++ gs) = true) :
    Calls Try.prog 4 args W fun e W' => ∃ v, e = .returned v ∧ Rows.queueTypesSpec.post enc Try.prog Try.f4 false true false false W args v W' := by
  obtain ⟨p, q, hA0, hV, hq, hfz, hnd⟩ := id hW
  have hA : DataW.TrodAll enc Try.prog W 0 (fun _ => true) true Try.f4.params.toList args.toList ds p := hA0
  rw [Try.params4] at hA hval
  obtain ⟨v0, vs0, d0, ds0, p0, q0, hargs, rfl, rfl, h0, r0⟩ := trodAll_cons hA
  obtain ⟨v1, vs1, d1, ds1, p1, q1, rfl, rfl, rfl, h1, r1⟩ := trodAll_cons r0
  obtain ⟨rfl, rfl, rfl⟩ := trodAll_nil r1
  obtain rfl : args = #[v0, v1] := by cases args; simp_all
  obtain ⟨rfl, rfl⟩ := trodVars_none hV
  have hbk := bulk_of hk
  simp only [List.append_nil, Rows.uptoBulkAll] at hbk
  have o3 : Opens Try.prog Ty.int (fun _ => 1) 3 := opens_int (by kernel_rfl) (by kernel_rfl)
  have o44 : Opens Try.prog Ty_trommellaw21_Op bulk_trommellaw21_Op 44 := opens_trommellaw21_Op
  have o36 : Opens Try.prog (Ty.slice Ty_trommellaw21_Op) (fun l => bulkL bulk_trommellaw21_Op l + 1) 36 := opens_slice (e := 44) o44 (by kernel_rfl) (by kernel_rfl) (by decide)
  obtain ⟨a0, rfl, w0, b0⟩ := arg_int (by kernel_rfl) o3 (hval 0 3 v0 rfl rfl) h0 (by omega)
  obtain ⟨a1, w1, b1⟩ := arg_slice (e := 44) (by kernel_rfl) o36 (hval 1 36 v1 rfl rfl) h1 (by omega)
  refine law_post (tb := 4) laidOut (by kernel_rfl) rfl (by kernel_rfl) (by kernel_rfl) ⟨rfl, rfl, rfl⟩ hW ?_
  refine law_QueueTypes a0 v1 a1 W w0 w1 ?_
  clear hk hW hA hV hfz hnd hval
  omega

set_option maxRecDepth 100000 in
theorem lifted (os : Os) (started : os.Started) (H : Type) (enc : TypeId × Value → H) (F : Stop.Interp) :
    ReturnsInHanded {} Try.checked os 4 .any ((Rows.OpenSpec.upto Rows.queueTypesSpec).pre6 enc Try.prog Try.f4 Rows.queueTypesUptoRow.domain false) (((Rows.OpenSpec.upto Rows.queueTypesSpec).at F).post enc Try.prog Try.f4 false true false false) := by
  refine returnsInHanded_of_cond (C := Try.checked) (s := Rows.OpenSpec.upto Rows.queueTypesSpec) (k := Rows.uptoSmall) rfl ownk started (by kernel_rfl) Try.func4
    (OpenSpec.witness (enc := enc) (C := Try.checked) (s := Rows.OpenSpec.upto Rows.queueTypesSpec) (k := Rows.uptoSmall) rfl false ⟨#[], #[.int .i64 0, .slice none 0 0], []⟩ 12 (by kernel_rfl) (by kernel_rfl) (by kernel_rfl)
      (x := ([.lit (.int .i64 0), .nil], [], [])) (by kernel_rfl) rfl (by kernel_rfl)) ?_
  intro W base args ds gs before hval hW _ hk _
  exact contract H enc W base args ds gs before hval hW hk

theorem proved : Rows.QueueTypesUptoSaid :=
  OpenClaim.holds_of_cond 4 Try.f4 rfl rfl rfl rfl rfl rfl rfl ⟨rfl, rfl, rfl, rfl, rfl⟩ rfl rfl rfl rfl rfl (by kernel_rfl) Try.func4 (by kernel_rfl)
    (of_decide_eq_true (by kernel_rfl)) (by unfold Func.isWrapper; first | (rw [if_pos (by decide +kernel)]; kernel_rfl) | (rw [if_neg (by decide +kernel)]; exact ⟨rfl, rfl⟩))
    (fun os started H enc _ F => lifted os started H enc F)
end Go.Proofs.Ytahipnlffgbjgaa.hQueueTypes
#print axioms Go.Proofs.Ytahipnlffgbjgaa.hQueueTypes.proved
