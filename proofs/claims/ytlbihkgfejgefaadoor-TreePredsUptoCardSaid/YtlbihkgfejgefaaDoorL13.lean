/- Lib 13: more rules: numbers of other kinds, texts, bytes. -/
import Derived.Test.YtlbihkgfejgefaaDoorL12
import Derived.Laws.BytesArg
import Derived.Laws.Concat
namespace Go.Proofs.YtlbihkgfejgefaaDoor.L
open Go Go.RowKit
set_option linter.unusedVariables false
set_option linter.unusedSimpArgs false

def Ty.byte : Ty UInt8 where
  n := 1
  rep _ us a := us = [.int .u8 (a.toNat : Int)]
  len h := by rw [h]; rfl
  mono _ h := h
  one h u hu := by rw [h] at hu; simp at hu; subst hu; rfl
@[simp] theorem Ty.byte_n : Ty.byte.n = 1 := rfl
theorem flat_byte : Flat Ty.byte := fun _ _ _ _ h => h

section
variable {P : Program} {Kp : PK} {K : VK} {w : World}

theorem intT_spec {t : Nat} {k : IntKind} (h : intOf? P t = some k) : P.underlying t = some (.int k) := by
  unfold intOf? at h; split at h
  · rename_i k' hk; cases h; exact hk
  · cases h
theorem strT_spec {t : Nat} (h : isStr P t = true) : P.underlying t = some .string := by
  unfold isStr at h; split at h
  · assumption
  · cases h

def isBoolT (P : Program) (t : Nat) : Bool := match P.underlying t with | some .bool => true | _ => false
class BoolT (P : Program) (t : Nat) : Prop where h : isBoolT P t = true
theorem boolT_spec {t : Nat} (h : isBoolT P t = true) : P.underlying t = some .bool := by
  unfold isBoolT at h; split at h
  · assumption
  · cases h

theorem rCVI {s d : Nat} {k k' : IntKind} [h : IntT P s k] [h' : IntT P d k'] {q : IntKind} {n : Int} (hk : K (.int k' (k'.wrap n)) w) : oCV P s d (.int q n) Kp w K := by
  have h1 := intT_spec h.h
  have h2 := intT_spec h'.h
  unfold oCV
  simp only [NV, convert, Sem.run_bind, run_und h1, run_und h2, Result.andThen_ok, Conv.intToInt, Sem.run_pure]
  exact hk

theorem rEqlB {t : Nat} {ox oy : Operand} [h : BoolT P t] {a b : Bool} (hk : K (.bool (a == b)) w) : oBin P .eql t ox oy (.bool a) (.bool b) Kp w K := by
  have hu := boolT_spec h.h
  refine rBin_of ?_ hk
  have : (Op.equalIn Op.maxDepth t (.bool a) (.bool b)).run P w = .ok (a == b) w := by
    unfold Op.maxDepth
    rw [show (10000 : Nat) = 9999 + 1 from rfl, Op.equalIn]
    simp only [Sem.run_bind, run_und hu, Result.andThen_ok, Sem.run_pure]
  simp only [eqGuard, binOp, Op.equal, Sem.run_bind, this, Bool.not_true, Bool.false_eq_true, if_false, Result.andThen_ok, Sem.run_pure]
theorem rNeqB {t : Nat} {ox oy : Operand} [h : BoolT P t] {a b : Bool} (hk : K (.bool (a != b)) w) : oBin P .neq t ox oy (.bool a) (.bool b) Kp w K := by
  have hu := boolT_spec h.h
  refine rBin_of ?_ hk
  have : (Op.equalIn Op.maxDepth t (.bool a) (.bool b)).run P w = .ok (a == b) w := by
    unfold Op.maxDepth
    rw [show (10000 : Nat) = 9999 + 1 from rfl, Op.equalIn]
    simp only [Sem.run_bind, run_und hu, Result.andThen_ok, Sem.run_pure]
  simp only [eqGuard, binOp, Op.equal, Sem.run_bind, this, Bool.not_true, Bool.false_eq_true, if_false, Result.andThen_ok, Sem.run_pure]
  rfl

theorem rMul {t : Nat} {ox oy : Operand} {a b : Int} (h1 : -9223372036854775808 ≤ a * b) (h2 : a * b ≤ 9223372036854775807) (hk : K (.int .i64 (a * b)) w) : oBin P .mul t ox oy (.int .i64 a) (.int .i64 b) Kp w K := by
  refine rBin_of ?_ hk
  simp [eqGuard, binOp, Op.intArith, IntWalk.i64_in _ ⟨h1, h2⟩]

theorem rShr {t : Nat} {ox oy : Operand} {k q : IntKind} {a b : Int} (h0 : 0 ≤ b) (hb : b ≤ k.bits) (hk : K (.int k (a.fdiv (2 ^ b.toNat))) w) : oBin P .shr t ox oy (.int k a) (.int q b) Kp w K := by
  refine rBin_of ?_ hk
  have : min b.toNat k.bits = b.toNat := by omega
  simp only [eqGuard, binOp, Op.shift, if_neg (by omega : ¬ b < 0), this, Sem.run_bind, Sem.run_pure, Bool.not_true, Bool.not_false, if_true, Result.andThen_ok]

theorem rAddStr {t : Nat} {ox oy : Operand} {a b : ByteArray} (h : a.size + b.size ≤ 9223372036854775807) (hk : K (.string (a ++ b)) w) : oBin P .add t ox oy (.string a) (.string b) Kp w K := by
  refine rBin_of ?_ hk
  simp only [eqGuard, binOp, Sem.run_bind, Sem.run_pure, Bool.not_true, Bool.not_false, if_true, Result.andThen_ok, run_string_add_sum w a b h]

theorem rLenS {rt t : Nat} {cs : List Bool} [h : StrT P t] {s : ByteArray} (hk : K (.int .i64 s.size) w) : oBI P .len #[t] rt cs [.string s] Kp w K := by
  have hu := strT_spec h.h
  unfold oBI builtin Builtin.len_
  simp only [List.getElem?_toArray, List.getElem?_cons_zero, Sem.run_bind, run_und hu, Result.andThen_ok]
  exact hk

theorem rCVB {s d e by_ : Nat} [h : SliceT P s e 1 by_] [he : IntT P e .u8] [hd : StrT P d] {I : CM} {v : Value} {l : List UInt8} (hx : RS Ty.byte (hide w []) I v l) (hk : K (.string ⟨l.toArray⟩) w) : oCV P s d v Kp w K := by
  obtain ⟨hu, _⟩ := sliceInfo_spec h.h
  have h1 := intT_spec he.h
  have h2 := strT_spec hd.h
  obtain ⟨A, n, c, rfl, hn, hc, hc', hc2, hh⟩ := hx
  have hr : (convert s d (.slice A n c)).run P w = .ok (.string ⟨l.toArray⟩) w := by
    by_cases h0 : n = 0
    · have : l = [] := List.eq_nil_of_length_eq_zero (by omega)
      subst this; subst h0
      rw [run_convert_bytes_string w s d e A 0 c hu h1 h2]
      cases A <;> simp [Conv.bytesToString, Go.loadCells, Go.loadCellsFrom] <;> rfl
    · obtain ⟨b, o, rfl, hh'⟩ := hh h0
      have := run_convert_bytes_arg (P := P) w s e hu h1 b o n c (l.map fun x => (x.toNat : Int)) (by simp; omega) (fun i hi => by
        obtain ⟨us, hu', hr⟩ := hh' i (by omega)
        have hr' : us = [.int .u8 (l[i].toNat : Int)] := hr
        subst hr'
        have := hide_cell (hu' 0 (by simp))
        simp only [Ty.byte_n, Nat.mul_one, Nat.add_zero, List.getElem_cons_zero] at this
        rw [this]; simp [List.getD, List.getElem?_eq_getElem (show i < l.length by omega)]) d h2
      rw [this]
      congr 2
      simp only [strOfNums]
      congr 1
      simp only [List.map_map]
      congr 1
      conv => rhs; rw [← List.map_id l]
      refine List.map_congr_left fun x _ => ?_
      simp
  unfold oCV
  simp only [NV, Sem.run_bind, hr, Result.andThen_ok, Sem.run_pure]
  exact hk

/-- append of one element that a literal laid in a new block -/
theorem rApp1 {c : World} {I : CM} {F : Hp} {As : List HP} {α : Type} {T : Ty α} {t rt e sz by_ g : Nat} {csb : List Bool} [h : SliceT P t e sz by_] {z : Value} [hz : ZeroT P e z] {v : Value} {l : List α} {cs : List Value} {x : α}
    (hs : St c I F (Cells g cs e :: OwnSl T e v l :: As) w) (hx : T.rep I cs x) (hsz : T.n = sz) (hzs : z.cells.size = sz) (hpos : 0 < sz) (hbytes : (l.length + 1) * by_ ≤ 140737488355328) (hby : 0 < by_)
    (hk : ∀ v' w', St c I F (OwnSl T e v' (l ++ [x]) :: As) w' → K v' w') : oBI P .append #[t, t] rt csb [v, .slice (some ⟨g, 0, none⟩) 1 1] Kp w K := by
  have hs1 := hs.toSl (T := T) (l := [x]) 1 [cs] (by simp) rfl rfl (fun i h h' => by
    have : i = 0 := by simp at h; omega
    subst this; exact hx) (by simp [maxLen])
  obtain ⟨F', hF, hr, hs2, back⟩ := hs1.lendSl (by simp)
  refine rAppS hs2 hr hsz hzs hpos hbytes hby fun v' w' hs3 => ?_
  obtain ⟨-, hs4⟩ := back _ _ _ (Gr.refl _ _) hs3
  exact hk v' w' hs4.drop

theorem rHL {S : World → Prop} {t : Nat} [h : Scalar P t] {a : Addr} {v : Value} (hS : ∀ w1, S w1 → w1.cell? a = some v) (hk : K v w) : oHL P S t (.pointer (some a)) w K :=
  ⟨v, fun w1 h1 => run_load_scalar h.h (hS w1 h1), hk⟩
theorem rHLN {S : World → Prop} {t n b o : Nat} [h : AggN P t n] (cs : List Value) (hl : cs.length = n) (hS : ∀ w1, S w1 → ∀ j (h : j < cs.length), w1.cell? ⟨b, o + j, none⟩ = some cs[j]) (hk : K (.agg cs.toArray) w) : oHL P S t (.pointer (some ⟨b, o, none⟩)) w K :=
  ⟨_, fun w1 h1 => run_load_agg h.h hl (hS w1 h1), hk⟩
/-- what a region's loads read lasts -/
def Pers (J : CM) : World → Prop := fun w => ∀ b o v, J b o = some v → w.cell? ⟨b, o, none⟩ = some v
theorem rHLP {J : CM} {t : Nat} [h : Scalar P t] {b o : Nat} {v : Value} (hv : J b o = some v) (hk : K v w) : oHL P (Pers J) t (.pointer (some ⟨b, o, none⟩)) w K := rHL (fun w1 h1 => h1 _ _ _ hv) hk
theorem rHLNP {J : CM} {t n b o : Nat} [h : AggN P t n] (cs : List Value) (hl : cs.length = n) (hv : ∀ j (h : j < cs.length), J b (o + j) = some cs[j]) (hk : K (.agg cs.toArray) w) : oHL P (Pers J) t (.pointer (some ⟨b, o, none⟩)) w K := rHLN cs hl (fun w1 h1 j hj => h1 _ _ _ (hv j hj)) hk
theorem St.persRd {c : World} {I : CM} {F : Hp} {As : List HP} (hs : St c I F As w) : Pers (Rd I F) w := fun b o v h => hs.rdCell h
theorem St.persI {c : World} {I J : CM} {F : Hp} {As : List HP} (hs : St c J F As w) (h : CM.le I J) : Pers I w := fun b o v hv => hs.pers _ _ _ (h _ _ _ hv)
end
section
variable {c : World} {I : CM} {F : Hp} {As : List HP} {w : World}
/-- a law's begin -/
theorem St.init (w : World) : ∃ F, St w (hide w []) F [] w ∧ ∀ {I' : CM} {As : List HP} {w' : World}, St w I' F As w' → Mod [] w w' :=
  ⟨fun b => w.heap[b]?, St.start w, fun hs => hs.base fun _ _ h => h⟩

theorem St.ownInts {l : List Int} {g E : Nat} (hs : St c I F (Cells g (l.map (Value.int .i64)) E :: As) w) (hr : ∀ x ∈ l, -9223372036854775808 ≤ x ∧ x ≤ 9223372036854775807) (hl : l.length ≤ 140737488355328) (n : Nat) (hn : n = l.length) :
    St c I F (OwnSl Ty.int E (.slice (some ⟨g, 0, none⟩) n n) l :: As) w :=
  hs.toSl (T := Ty.int) (l := l) n (l.map fun x => [Value.int .i64 x]) (by
    clear hs hr hl hn; induction l with
    | nil => rfl
    | cons x l ih => simp [← ih]) hn (by simp) (fun i h h' => by exact ⟨by simp, hr _ (List.getElem_mem _)⟩) (by simp only [maxLen]; omega)
theorem St.ownStrs {l : List ByteArray} {g E : Nat} (hs : St c I F (Cells g (l.map Value.string) E :: As) w) (hr : ∀ x ∈ l, x.size ≤ 140737488355328) (hl : l.length ≤ 140737488355328) (n : Nat) (hn : n = l.length) :
    St c I F (OwnSl Ty.str E (.slice (some ⟨g, 0, none⟩) n n) l :: As) w :=
  hs.toSl (T := Ty.str) (l := l) n (l.map fun x => [Value.string x]) (by
    clear hs hr hl hn; induction l with
    | nil => rfl
    | cons x l ih => simp [← ih]) hn (by simp) (fun i h h' => by exact ⟨by simp, hr _ (List.getElem_mem _)⟩) (by simp only [maxLen]; omega)
/-- a literal of numbers, for reading -/
theorem St.ints {l : List Int} {g E : Nat} (hs : St c I F (Cells g (l.map (Value.int .i64)) E :: As) w) (hr : ∀ x ∈ l, -9223372036854775808 ≤ x ∧ x ≤ 9223372036854775807) (hl : l.length ≤ 140737488355328) (n : Nat) (hn : n = l.length) :
    ∃ J, Gr F I J ∧ RSl Ty.int J (.slice (some ⟨g, 0, none⟩) n n) l ∧ St c J F As w :=
  (hs.toSl (T := Ty.int) (l := l) n (l.map fun x => [Value.int .i64 x]) (by
    clear hs hr hl hn; induction l with
    | nil => rfl
    | cons x l ih => simp [← ih]) hn (by simp) (fun i h h' => by exact ⟨by simp, hr _ (List.getElem_mem _)⟩) (by simp only [maxLen]; omega)).lastSl hl
theorem St.strs {l : List ByteArray} {g E : Nat} (hs : St c I F (Cells g (l.map Value.string) E :: As) w) (hr : ∀ x ∈ l, x.size ≤ 140737488355328) (hl : l.length ≤ 140737488355328) (n : Nat) (hn : n = l.length) :
    ∃ J, Gr F I J ∧ RSl Ty.str J (.slice (some ⟨g, 0, none⟩) n n) l ∧ St c J F As w :=
  (hs.toSl (T := Ty.str) (l := l) n (l.map fun x => [Value.string x]) (by
    clear hs hr hl hn; induction l with
    | nil => rfl
    | cons x l ih => simp [← ih]) hn (by simp) (fun i h h' => by exact ⟨by simp, hr _ (List.getElem_mem _)⟩) (by simp only [maxLen]; omega)).lastSl hl

end
end Go.Proofs.YtlbihkgfejgefaaDoor.L
