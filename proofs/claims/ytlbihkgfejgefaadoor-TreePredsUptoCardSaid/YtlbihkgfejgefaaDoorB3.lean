/- numbers written; words in quotation marks. -/
import Derived.Test.YtlbihkgfejgefaaDoorL19
import Derived.Test.YtlbihkgfejgefaaDoorE1
import Derived.Test.YtlbihkgfejgefaaDoorB2
namespace Go.Proofs.YtlbihkgfejgefaaDoor
open Go L
set_option linter.unusedVariables false

abbrev PowT (F : Hp) : Prop := TabF Tryd.prog "internal/strconv.uint64pow10" .u64 Lib.pow10Tab F

def plainC (c : UInt8) : Bool := decide (32 ≤ c.toNat) && decide (c.toNat ≤ 126) && decide (c.toNat ≠ 34) && decide (c.toNat ≠ 92)
def hexB (n : Nat) : UInt8 := if n < 10 then UInt8.ofNat (48 + n) else UInt8.ofNat (87 + n)
def quoteC (c : UInt8) : List UInt8 := if plainC c then [c] else if c.toNat = 34 ∨ c.toNat = 92 then [92, c] else [92, 120, hexB (c.toNat / 16), hexB (c.toNat % 16)]
def quoteT (s : ByteArray) : List UInt8 := 34 :: (s.data.toList.flatMap quoteC ++ [34])

theorem quoteC_len (c : UInt8) : (quoteC c).length ≤ 4 := by unfold quoteC; split; simp; split <;> simp
theorem quotes_len (l : List UInt8) : (l.flatMap quoteC).length ≤ 4 * l.length := by
  induction l with
  | nil => simp
  | cons a l ih => simp only [List.flatMap_cons, List.length_append, List.length_cons]; have := quoteC_len a; omega
theorem quoteT_len (s : ByteArray) : (quoteT s).length ≤ 4 * s.size + 2 := by
  have := quotes_len s.data.toList
  have e : s.data.toList.length = s.size := by simp
  simp only [quoteT, List.length_cons, List.length_append, List.length_nil]; omega
theorem hex_at : ∀ n, (h : n < 16) → (ByteArray.mk #[48, 49, 50, 51, 52, 53, 54, 55, 56, 57, 97, 98, 99, 100, 101, 102])[n]'h = hexB n := by decide
theorem and15 (c : UInt8) : (c &&& 15).toNat = c.toNat % 16 := by
  rw [UInt8.toNat_and]; exact Nat.and_two_pow_sub_one_eq_mod c.toNat 4

section
variable {c : World} {I : CM} {F : Hp} {As : List HP} {w : World} {g : Nat} {bs : List UInt8}

theorem b_Itoa {n : Int} (hn : -9223372036854775808 ≤ n ∧ n ≤ 9223372036854775807) (hT : PowT F) (hs : St c I F As w) :
    Calls Tryd.prog i_strconv_Itoa #[.int .i64 n] w (callR (fun r w' => r = .string ⟨(Lib.itoa n).toArray⟩ ∧ St c I F As w') noP) :=
  (Tryd.strconv_Itoa n hn.1 hn.2 w (hT.is hs)).mono fun e w' ⟨he, k, os, hw⟩ => by
    subst he hw
    exact ⟨rfl, hs.same (Mod.growN w k os)⟩

theorem b_plain (x : UInt8) (hs : St c I F As w) : Calls Tryd.prog i_value_plain #[.int .u8 (x.toNat : Int)] w (callR (fun r w' => r = .bool (plainC x) ∧ St c I F As w') noP) := by
  refine c_value_plain ?_
  unfold n_value_plain
  repeat' (first | refine rG1 ?_ | refine rG0 ?_ | refine rPickT ?_ | refine rPickF ?_ | refine cGeq (fun _ => ?_) (fun _ => ?_) | refine cLeq (fun _ => ?_) (fun _ => ?_) | refine cNeq (fun _ => ?_) (fun _ => ?_))
  all_goals (refine ⟨congrArg Value.bool ?_, hs⟩; simp [plainC]; try omega)

set_option maxHeartbeats 1000000 in
theorem b_Quote (s : ByteArray) (hl : s.size ≤ 1099511627776) (hs : St c I F As w) :
    Calls Tryd.prog i_value_Quote #[.string s] w (callR (fun r w' => r = .string ⟨(quoteT s).toArray⟩ ∧ St c I F As w') noP) := by
  refine c_value_Quote ?_
  unfold n_value_Quote
  refine rAllocS hs [.pointer none, .slice none 0 0] rfl ?_; clear hs
  intro g w hs
  have hC := b_WriteByte 34 (BldH.new hs) (by simp)
  refine rCall hC ?_; clear hC hs
  rintro r w hs
  refine rLenS ?_
  refine rLoop1 (fun y w' => ∃ k : Nat, y = .int .i64 k ∧ k ≤ s.size ∧ St c I F (BldH g (34 :: (s.data.toList.take k).flatMap quoteC) :: As) w') (fun y _ => match y with | .int _ k => s.size - k.toNat | _ => 0) ⟨0, rfl, Nat.zero_le _, by simpa using hs⟩ ?_
  clear hs
  rintro f w ag hag ⟨k, hk, hkl, hs⟩
  simp only [hk] at hag ⊢
  have hq := quotes_len (s.data.toList.take k)
  have hq2 : (s.data.toList.take k).length ≤ s.size := by rw [List.length_take]; simp; omega
  refine cLss (fun hlt => ?_) (fun hge => ?_)
  · have hkl : k < s.size := by omega
    have hkl' : k < s.data.toList.length := by simpa using hkl
    have hget : s.data.toList[k] = s[k] := by simp [ByteArray.getElem_eq_getElem_data]
    have htk : ∀ X, X = quoteC s[k] → (34 :: (s.data.toList.take (k + 1)).flatMap quoteC) = (34 :: (s.data.toList.take k).flatMap quoteC) ++ X := by
      rintro X rfl
      rw [List.take_succ_eq_append_getElem hkl', List.flatMap_append, hget]; simp
    have nxt : ∀ X w1, X = quoteC s[k] → St c I F (BldH g ((34 :: (s.data.toList.take k).flatMap quoteC) ++ X) :: As) w1 → ag [.int .i64 ((k : Int) + 1)] w1 := by
      intro X w1 hX h1
      refine hag _ _ ⟨k + 1, by simp, by omega, ?_⟩ (by dsimp only; omega)
      rw [htk X hX]; exact h1
    generalize hB : (34 :: (s.data.toList.take k).flatMap quoteC) = B at hs nxt
    have hBl : B.length ≤ 4 * s.size + 1 := by rw [← hB, List.length_cons]; omega
    refine rTrue <| rIXS (by omega) (by simpa using hkl) ?_
    simp only [Int.toNat_natCast]
    generalize s[k] = x at nxt
    have hC := b_plain x hs
    refine rCall hC ?_; clear hC hs
    rintro _ w ⟨rfl, hs⟩
    refine rCondB (fun hp => ?_) fun hp => ?_
    · have hC := b_WriteByte x hs (by omega)
      refine rCall hC ?_; clear hC hs
      rintro r w hs
      exact rAdd (by omega) (by omega) (nxt _ _ (by simp [quoteC, hp]) hs)
    have hesc : (x.toNat = 34 ∨ x.toNat = 92) → oCall Tryd.prog i_strings_Builder_WriteByte [.pointer (some ⟨g, 0, none⟩), .int .u8 92] noP w fun t36 w => oCall Tryd.prog i_strings_Builder_WriteByte [.pointer (some ⟨g, 0, none⟩), .int .u8 (x.toNat : Int)] noP w fun t38 w => oBin Tryd.prog .add T_int (.tmp 9) (.const (.int .i64 1)) (.int .i64 k) (.int .i64 1) noP w fun t39 w => ag [t39] w := by
      intro hx
      have hC := b_WriteByte 92 hs (by omega)
      refine rCall hC ?_; clear hC hs
      rintro r w hs
      have hC := b_WriteByte x hs (by simp; omega)
      refine rCall hC ?_; clear hC hs
      rintro r w hs
      refine rAdd (by omega) (by omega) (nxt [92, x] _ (by simp [quoteC, hp, hx]) (by simpa using hs))
    refine cEql (fun h34 => ?_) (fun h34 => ?_)
    · exact rG0 <| rG0 <| rPickT <| rTrue <| hesc (.inl (by omega))
    refine rG1 <| rG1 <| cEql (fun h92 => ?_) (fun h92 => ?_)
    · exact rPickF <| rTrue <| hesc (.inr (by omega))
    refine rPickF <| rFalse ?_
    have hC := b_WriteString ⟨#[92, 120]⟩ hs (by show B.length + 2 ≤ _; omega)
    refine rCall hC ?_; clear hC hs hesc
    rintro r w hs
    have hx := x.toNat_lt
    have e1 : (x.toNat : Int).fdiv (2 ^ (4 : Int).toNat) = ((x.toNat / 16 : Nat) : Int) := by
      rw [Int.fdiv_eq_ediv_of_nonneg _ (by decide)]; rfl
    refine rShr (by decide) (by decide) ?_
    rw [e1]
    refine rIXS (by omega) (by show (((x.toNat / 16 : Nat) : Int)).toNat < 16; omega) ?_
    have hC := b_WriteByte (hexB (x.toNat / 16)) hs (by simp; omega)
    simp only [Int.toNat_natCast, hex_at (x.toNat / 16) (by omega)]
    refine rCall hC ?_; clear hC hs
    rintro r w hs
    refine rAnd8 (y := 15) ?_
    rw [and15]
    refine rIXS (by omega) (by show (((x.toNat % 16 : Nat) : Int)).toNat < 16; omega) ?_
    have hC := b_WriteByte (hexB (x.toNat % 16)) hs (by simp; omega)
    simp only [Int.toNat_natCast, hex_at (x.toNat % 16) (by omega)]
    refine rCall hC ?_; clear hC hs
    rintro r w hs
    refine rAdd (by omega) (by omega) (nxt [92, 120, hexB (x.toNat / 16), hexB (x.toNat % 16)] _ (by
      have : ¬ (x.toNat = 34 ∨ x.toNat = 92) := by omega
      simp [quoteC, hp, this]) (by simpa using hs))
  · have : k = s.size := by omega
    subst this
    refine rFalse ?_
    have hC := b_WriteByte 34 hs (by rw [List.length_cons]; omega)
    refine rCall hC ?_; clear hC hs
    rintro r w hs
    have hC := b_String hs
    refine rCall hC ?_; clear hC hs
    rintro r w ⟨rfl, hs⟩
    refine ⟨?_, hs⟩
    rw [List.take_of_length_le (by simp)]
    rfl
end
end Go.Proofs.YtlbihkgfejgefaaDoor
