/- Lib 15: many owned things at once; pointers compared. -/
import Derived.Test.YtlbihkgfejgefaaDoorL14
import Derived.LaidEqlPtr
namespace Go.Proofs.YtlbihkgfejgefaaDoor.L
open Go Go.RowKit
set_option linter.unusedVariables false

theorem star_perm {l l' : List HP} (hp : l.Perm l') {I : CM} : ∀ {h : Hp}, star l I h → star l' I h := by
  induction hp with
  | nil => intro h hs; exact hs
  | cons A _ ih => intro h hs; exact star.tail (fun _ => ih) hs
  | swap A B l => intro h hs; exact star.swap hs
  | trans _ _ ih1 ih2 => intro h hs; exact ih2 (ih1 hs)

def HP.all (l : List HP) : HP := ⟨fun I h => star l I h, fun hle h => star.mono hle h⟩

theorem star_emp {l : List HP} {I : CM} {h : Hp} : star (HP.emp :: l) I h ↔ star l I h := by
  constructor
  · rintro ⟨h1, h2, a, b, _, rfl⟩
    have : h1 = fun _ => none := funext a
    subst this
    have : Hp.add (fun _ => none) h2 = h2 := by funext b; rfl
    rw [this]; exact b
  · intro hs; exact ⟨fun _ => none, h, fun _ => rfl, hs, fun b => .inl rfl, by funext b; rfl⟩

theorem star_all {l r : List HP} {I : CM} {h : Hp} : star (HP.all l :: r) I h ↔ star (l ++ r) I h := by
  induction l generalizing h with
  | nil => exact star_emp
  | cons A l ih =>
    constructor
    · rintro ⟨h1, h2, ⟨h3, h4, a, b, d1, rfl⟩, f, d2, rfl⟩
      have d2' := Hp.apart_add.1 d2.symm
      refine ⟨h3, Hp.add h4 h2, a, ih.1 ⟨h4, h2, b, f, d2'.2.symm, rfl⟩, Hp.apart_add.2 ⟨d1, d2'.1.symm⟩, by rw [Hp.add_assoc]⟩
    · rintro ⟨h3, h4, a, b, d1, rfl⟩
      obtain ⟨h5, h6, e, f, d2, rfl⟩ := ih.2 b
      have d1' := Hp.apart_add.1 d1
      exact ⟨Hp.add h3 h5, h6, ⟨h3, h5, a, e, d1'.1, rfl⟩, f, (Hp.apart_add.2 ⟨d1'.2.symm, d2.symm⟩).symm, by rw [Hp.add_assoc]⟩

theorem perm_eraseIdx {α : Type _} : ∀ (l : List α) (i : Nat) (hi : i < l.length), l.Perm (l[i] :: l.eraseIdx i)
  | a :: l, 0, _ => .refl _
  | a :: l, i + 1, hi => ((perm_eraseIdx l i (by simpa using hi)).cons a).trans (.swap _ _ _)
theorem perm_set {α : Type _} (x : α) : ∀ (l : List α) (i : Nat) (hi : i < l.length), (l.set i x).Perm (x :: l.eraseIdx i)
  | a :: l, 0, _ => .refl _
  | a :: l, i + 1, hi => ((perm_set x l i (by simpa using hi)).cons a).trans (.swap _ _ _)

section
variable {c : World} {I : CM} {F : Hp} {As : List HP} {w : World}
theorem St.perm {Bs : List HP} (hs : St c I F As w) (hp : As.Perm Bs) : St c I F Bs w := hs.map fun _ => star_perm hp
theorem St.all {l : List HP} (hs : St c I F (HP.all l :: As) w) : St c I F (l ++ As) w := hs.map fun _ => star_all.1
theorem St.toAll {l : List HP} (hs : St c I F (l ++ As) w) : St c I F (HP.all l :: As) w := hs.map fun _ => star_all.2
theorem St.allAt {l : List HP} (hs : St c I F (HP.all l :: As) w) (i : Nat) (hi : i < l.length) : St c I F (l[i] :: HP.all (l.eraseIdx i) :: As) w := by
  have h1 := hs.all.perm ((perm_eraseIdx l i hi).append_right As)
  have h2 : St c I F (l.eraseIdx i ++ (l[i] :: As)) w := h1.perm (List.perm_middle.symm)
  exact h2.toAll.p1
theorem St.allSet {l : List HP} {A : HP} {i : Nat} (hi : i < l.length) (hs : St c I F (A :: HP.all (l.eraseIdx i) :: As) w) : St c I F (HP.all (l.set i A) :: As) w := by
  have h1 := hs.p1.all
  have h2 : St c I F ((A :: l.eraseIdx i) ++ As) w := h1.perm List.perm_middle
  exact (h2.perm ((perm_set A l i hi).symm.append_right As)).toAll

/-- two parts of one's own are two -/
theorem St.ne {g g' : Nat} {cs cs' : List Value} {E E' : Nat} (hs : St c I F (Cells g cs E :: Cells g' cs' E' :: As) w) : g ≠ g' := by
  obtain ⟨h, ⟨h1, h2, a, ⟨h3, h4, b, _, _, rfl⟩, d, rfl⟩, _⟩ := hs.own
  have a' : h1 = Hp.one g (.cells cs.toArray E (0, 0)) := a
  have b' : h3 = Hp.one g' (.cells cs'.toArray E' (0, 0)) := b
  subst a'; subst b'
  rintro rfl
  rcases d g with h' | h'
  · rw [Hp.one_self] at h'; cases h'
  · have := (Hp.add_none.1 h').1
    rw [Hp.one_self] at this; cases this
end

def Ty.ptr : Ty Nat where
  n := 1
  rep _ us a := us = [.pointer (some ⟨a, 0, none⟩)]
  len h := by rw [h]; rfl
  mono _ h := h
  one h u hu := by rw [h] at hu; simp at hu; subst hu; rfl
@[simp] theorem Ty.ptr_n : Ty.ptr.n = 1 := rfl
theorem flat_ptr : Flat Ty.ptr := fun _ _ _ _ h => h

section
variable {P : Program} {Kp : PK} {K : VK} {w : World}
theorem ptrInfo_size {t e sz : Nat} (h : ptrInfo P t = some (e, sz)) : ∃ i, P.info? e = some i ∧ i.size = sz := by
  unfold ptrInfo at h
  cases hu : P.underlying t with
  | none => rw [hu] at h; cases h
  | some d =>
    rw [hu] at h
    cases d <;> (try (cases h; done))
    case pointer e' =>
      cases hi : P.info? e' with
      | none => simp [hi] at h
      | some i => simp [hi] at h; obtain ⟨rfl, h2⟩ := h; exact ⟨i, hi, h2⟩

/-- an array's element -/
theorem rIAA {t m e sz : Nat} [h : ArrT P t m e sz] {b o : Nat} {k : IntKind} {i : Int} (h0 : 0 ≤ i) (h1 : i < m) (hk : K (.pointer (some ⟨b, o + i.toNat * sz, none⟩)) w) :
    oIA P t (.pointer (some ⟨b, o, none⟩)) (.int k i) Kp w K := by
  have hh := h.h
  unfold arrInfo at hh
  cases hu : P.underlying t with
  | none => rw [hu] at hh; cases hh
  | some d =>
    rw [hu] at hh
    cases d <;> (try (cases hh; done))
    case array n' e' =>
      cases hi : P.info? e' with
      | none => simp [hi] at hh
      | some i' =>
        simp [hi] at hh
        obtain ⟨rfl, rfl, rfl⟩ := hh
        unfold oIA
        simp only [NV, Instr.indexAt, Instr.sureAddr, asIntOf, Sem.run_bind, Sem.run_pure, Result.andThen_ok, run_und hu, h0, h1, and_self, if_true, run_size hi, add_ad]
        exact hk
theorem rAnd {t : Nat} {ox oy : Operand} {a b : Int} (hk : K (.int .i64 (IntKind.i64.wrap (BitVec.ofInt 64 a &&& BitVec.ofInt 64 b).toNat)) w) : oBin P .and t ox oy (.int .i64 a) (.int .i64 b) Kp w K := by
  refine rBin_of ?_ hk
  simp only [eqGuard, binOp, Op.intBits, Sem.run_bind, Sem.run_pure, Bool.not_true, Bool.not_false, if_true, Result.andThen_ok, ne_eq, not_true_eq_false, if_false]
  rfl

theorem rS {run : VK → Prop} {v : Value} (h : ∀ K' : VK, K' v w → run K') (hk : K v w) : oS run w K := ⟨v, h _ ⟨rfl, rfl⟩, hk⟩

theorem run_eqPP {t e sz : Nat} [h : PtrT P t e sz] {a b : Nat} {ca cb : List Value} {ea eb : Nat} (hsz : sz ≠ 0) (ha : Blk w a ca ea) (hb : Blk w b cb eb) :
    (Op.equal t (.pointer (some ⟨a, 0, none⟩)) (.pointer (some ⟨b, 0, none⟩))).run P w = .ok (decide (a = b)) w := by
  have hu := ptrInfo_spec h.h
  obtain ⟨i, hi, hs⟩ := ptrInfo_size h.h
  unfold Op.equal Op.maxDepth
  rw [show (10000 : Nat) = 9999 + 1 from rfl, Op.equalIn]
  simp only [Sem.run_bind, run_und hu, Result.andThen_ok, run_size hi, hs]
  rw [if_pos hsz]
  by_cases hab : a = b
  · subst hab; rw [run_sameAddr_same]; simp
  · rw [run_sameAddr_other (P := P) w (a := ⟨a, 0, none⟩) (b := ⟨b, 0, none⟩) (by simp [hab]) ha hb]; simp [hab]
theorem rEqlPP {t e sz : Nat} {ox oy : Operand} [h : PtrT P t e sz] {a b : Nat} {ca cb : List Value} {ea eb : Nat} (hsz : sz ≠ 0) (ha : Blk w a ca ea) (hb : Blk w b cb eb) (hk : K (.bool (decide (a = b))) w) :
    oBin P .eql t ox oy (.pointer (some ⟨a, 0, none⟩)) (.pointer (some ⟨b, 0, none⟩)) Kp w K := by
  refine rBin_of ?_ hk
  simp only [eqGuard, binOp, Sem.run_bind, run_eqPP hsz ha hb, Bool.not_true, Bool.false_eq_true, if_false, Result.andThen_ok, Sem.run_pure]
end
end Go.Proofs.YtlbihkgfejgefaaDoor.L
