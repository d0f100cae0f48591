/- Lib 10: more rules. -/
import Derived.Test.YtlbihkgfejgefaaDoorL9
import Derived.Laws.Strings
namespace Go.Proofs.YtlbihkgfejgefaaDoor.L
open Go Go.RowKit
set_option linter.unusedVariables false
set_option linter.unusedSimpArgs false

section rules
variable {P : Program} {Kp : PK} {w : World} {K : VK}

theorem ptrInfo_spec {t e sz : Nat} (h : ptrInfo P t = some (e, sz)) : P.underlying t = some (.pointer e) := by
  unfold ptrInfo at h
  cases hu : P.underlying t with
  | none => rw [hu] at h; cases h
  | some d =>
    rw [hu] at h
    cases d <;> (try (cases h; done))
    case pointer e' =>
      cases hi : P.info? e' with
      | none => simp [hi] at h
      | some i => simp [hi] at h; obtain ⟨rfl, _⟩ := h; rfl

/-- several roads that meet again: 'apply join (J := ..)', then the roads (each ends by 'exact hj ..'), then what follows -/
theorem join {J Q : World → Prop} {G : Prop} (h1 : (∀ w, J w → Q w) → G) (h2 : ∀ w, J w → Q w) : G := h1 h2
theorem joinV {J : Value → World → Prop} {Q : Value → World → Prop} {G : Prop} (h1 : (∀ v w, J v w → Q v w) → G) (h2 : ∀ v w, J v w → Q v w) : G := h1 h2

/-- a pointer against nil -/
theorem rEqlPN {t e sz : Nat} {ox oy : Operand} [h : PtrT P t e sz] {a : Addr} (hk : K (.bool false) w) : oBin P .eql t ox oy (.pointer (some a)) (.pointer none) Kp w K := by
  have hu := ptrInfo_spec h.h
  refine rBin_of ?_ hk
  have : (Op.equalIn Op.maxDepth t (.pointer (some a)) (.pointer none)).run P w = .ok false w := by
    unfold Op.maxDepth
    rw [show (10000 : Nat) = 9999 + 1 from rfl, Op.equalIn]
    simp only [Sem.run_bind, run_und hu, Result.andThen_ok]
    rfl
  simp only [eqGuard, binOp, Op.equal, Sem.run_bind, this, Bool.not_true, Bool.false_eq_true, if_false, Result.andThen_ok, Sem.run_pure]

theorem rNeqPN {t e sz : Nat} {ox oy : Operand} [h : PtrT P t e sz] {a : Addr} (hk : K (.bool true) w) : oBin P .neq t ox oy (.pointer (some a)) (.pointer none) Kp w K := by
  have hu := ptrInfo_spec h.h
  refine rBin_of ?_ hk
  have : (Op.equalIn Op.maxDepth t (.pointer (some a)) (.pointer none)).run P w = .ok false w := by
    unfold Op.maxDepth
    rw [show (10000 : Nat) = 9999 + 1 from rfl, Op.equalIn]
    simp only [Sem.run_bind, run_und hu, Result.andThen_ok]
    rfl
  simp only [eqGuard, binOp, Op.equal, Sem.run_bind, this, Bool.not_true, Bool.false_eq_true, if_false, Result.andThen_ok, Sem.run_pure]
  exact rfl

theorem bytes_eq_iff (a b : ByteArray) : (a.toList == b.toList) = decide (a = b) := by
  rw [Bool.eq_iff_iff]
  simp only [beq_iff_eq, decide_eq_true_eq]
  constructor
  · intro h
    rw [ByteArray.toList_eq, ByteArray.toList_eq] at h
    cases a with | mk x => cases b with | mk y =>
    congr 1
    exact Array.toList_inj.1 h
  · intro h; rw [h]

theorem rEqlS {t : Nat} {ox oy : Operand} {a b : ByteArray} (hk : K (.bool (decide (a = b))) w) : oBin P .eql t ox oy (.string a) (.string b) Kp w K := by
  refine rBin_of ?_ hk
  simp only [eqGuard, binOp, Op.stringOp, Sem.run_bind, Bool.not_true, Bool.false_eq_true, if_false, Sem.run_pure, Result.andThen_ok, bytes_eq_iff]
theorem rNeqS {t : Nat} {ox oy : Operand} {a b : ByteArray} (hk : K (.bool (decide (a ≠ b))) w) : oBin P .neq t ox oy (.string a) (.string b) Kp w K := by
  refine rBin_of ?_ hk
  simp only [eqGuard, binOp, Op.stringOp, Sem.run_bind, Bool.not_true, Bool.false_eq_true, if_false, Sem.run_pure, Result.andThen_ok, bytes_eq_iff, decide_not]

theorem rEX0 {x : Value} {l : List Value} (hk : K x w) : oEX P (.tuple (x :: l).toArray) 0 Kp w K := by
  unfold oEX; simp only [NV, Instr.extract, List.getElem?_toArray, List.getElem?_cons_zero, Sem.run_bind, Sem.run_pure, Result.andThen_ok]; exact hk
theorem rEX1 {x y : Value} {l : List Value} (hk : K y w) : oEX P (.tuple (x :: y :: l).toArray) 1 Kp w K := by
  unfold oEX; simp only [NV, Instr.extract, List.getElem?_toArray, List.getElem?_cons_succ, List.getElem?_cons_zero, Sem.run_bind, Sem.run_pure, Result.andThen_ok]; exact hk
theorem rEX2 {x y z : Value} {l : List Value} (hk : K z w) : oEX P (.tuple (x :: y :: z :: l).toArray) 2 Kp w K := by
  unfold oEX; simp only [NV, Instr.extract, List.getElem?_toArray, List.getElem?_cons_succ, List.getElem?_cons_zero, Sem.run_bind, Sem.run_pure, Result.andThen_ok]; exact hk

/-- a slice that a call laid in a new block, of one-cell elements -/
theorem RSl.lit {w : World} {S : List Nat} {g E : Nat} {l : List Int} (hb : Blk w g (l.map (Value.int .i64)) E) (hg : g ∉ S) (hl : l.length ≤ 1000) (hr : ∀ x ∈ l, -9223372036854775808 ≤ x ∧ x ≤ 9223372036854775807) : RSl Ty.int (hide w S) (.slice (some ⟨g, 0, none⟩) l.length l.length) l := by
  refine RSl.of_blk hb hg (l.map fun x => [Value.int .i64 x]) ?_ (by simp) (by omega) ?_
  · clear hb hl hr; induction l with
    | nil => rfl
    | cons x l ih => simp [← ih]
  · intro i hi hi'
    exact ⟨by simp, hr _ (List.getElem_mem _)⟩

theorem rNeqF {t : Nat} {ox oy : Operand} {k : IntKind} {a b : Int} (h : a = b) (hk : K (.bool false) w) : oBin P .neq t ox oy (.int k a) (.int k b) Kp w K := by
  refine rNeq ?_; rw [decide_eq_false (by simpa using h)]; exact hk
theorem rNeqT {t : Nat} {ox oy : Operand} {k : IntKind} {a b : Int} (h : a ≠ b) (hk : K (.bool true) w) : oBin P .neq t ox oy (.int k a) (.int k b) Kp w K := by
  refine rNeq ?_; rw [decide_eq_true h]; exact hk
theorem rEqlT {t : Nat} {ox oy : Operand} {k : IntKind} {a b : Int} (h : a = b) (hk : K (.bool true) w) : oBin P .eql t ox oy (.int k a) (.int k b) Kp w K := by
  refine rEql ?_; rw [decide_eq_true h]; exact hk
theorem rEqlF {t : Nat} {ox oy : Operand} {k : IntKind} {a b : Int} (h : a ≠ b) (hk : K (.bool false) w) : oBin P .eql t ox oy (.int k a) (.int k b) Kp w K := by
  refine rEql ?_; rw [decide_eq_false h]; exact hk
theorem rEqlST {t : Nat} {ox oy : Operand} {a b : ByteArray} (h : a = b) (hk : K (.bool true) w) : oBin P .eql t ox oy (.string a) (.string b) Kp w K := by
  refine rEqlS ?_; rw [decide_eq_true h]; exact hk

theorem RSl.litS {w : World} {S : List Nat} {g E : Nat} {l : List ByteArray} (hb : Blk w g (l.map Value.string) E) (hg : g ∉ S) (hl : l.length ≤ 1000) (hr : ∀ x ∈ l, x.size ≤ 140737488355328) : RSl Ty.str (hide w S) (.slice (some ⟨g, 0, none⟩) l.length l.length) l := by
  refine RSl.of_blk hb hg (l.map fun x => [Value.string x]) ?_ (by simp) (by omega) ?_
  · clear hb hl hr; induction l with
    | nil => rfl
    | cons x l ih => simp [← ih]
  · intro i hi hi'
    exact ⟨by simp, hr _ (List.getElem_mem _)⟩

end rules
end Go.Proofs.YtlbihkgfejgefaaDoor.L
