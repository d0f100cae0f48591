/- predicates written. -/
import Derived.Test.YtlbihkgfejgefaaDoorTJ
import Derived.Test.YtlbihkgfejgefaaDoorB3
import Derived.Lib.ItoaLen
namespace Go.Proofs.YtlbihkgfejgefaaDoor
open Go L
set_option linter.unusedVariables false

abbrev B (l : List UInt8) : ByteArray := ⟨l.toArray⟩
theorem B_size (l : List UInt8) : (B l).size = l.length := by simp [B, ByteArray.size]
theorem B_list (l : List UInt8) : (B l).data.toList = l := by simp [B]
theorem B_app (l m : List UInt8) : B l ++ B m = B (l ++ m) := by
  apply ByteArray.ext; simp [B]
theorem B_of (s : ByteArray) : s = B s.data.toList := by apply ByteArray.ext; simp [B]
theorem B_app' (s : ByteArray) (m : List UInt8) : s ++ B m = B (s.data.toList ++ m) := by
  conv => lhs; rw [B_of s]
  exact B_app _ _

def itoaB (n : Int) : ByteArray := B (Lib.itoa n)
def quoteB (s : ByteArray) : ByteArray := B (quoteT s)
def predT (p : D_api_Pred) : List UInt8 :=
  if p.kind = 1 then p.attr.data.toList ++ [32, 123] ++ joinT [44, 32] (p.ints.map itoaB) ++ [125]
  else if p.kind = 2 then p.attr.data.toList ++ [32, 123] ++ joinT [44, 32] (p.words.map quoteB) ++ [125]
  else if p.kind = 3 then p.attr.data.toList ++ [32, 91] ++ joinT [44, 32] ([p.lo, p.hi].map itoaB) ++ [93]
  else p.attr.data.toList ++ [32] ++ joinT [44, 32] (p.words.map quoteB) ++ [42]
def costW (l : List ByteArray) : Nat := (l.map fun s => 4 * s.size + 4).sum
def costP (p : D_api_Pred) : Nat := p.attr.size + 24 * p.ints.length + costW p.words + 64

theorem join_le (sep : List UInt8) (l : List ByteArray) : (joinT sep l).length ≤ sep.length * l.length + szs l := by
  cases l with
  | nil => simp [joinT]
  | cons a r =>
    rw [join_len sep (by simp)]
    have : sep.length * ((a :: r).length - 1) ≤ sep.length * (a :: r).length := Nat.mul_le_mul_left _ (by simp)
    omega
theorem szs_itoa : ∀ (l : List Int), (∀ x ∈ l, -9223372036854775808 ≤ x ∧ x ≤ 9223372036854775807) → szs (l.map itoaB) ≤ 21 * l.length
  | [], _ => by simp [szs]
  | a :: l, h => by
    have h1 := szs_itoa l (fun x hx => h x (by simp [hx]))
    have h2 := Lib.itoa_length_le a (h a (by simp)).1 (h a (by simp)).2
    have h3 : (itoaB a).size = (Lib.itoa a).length := B_size _
    simp only [szs, List.map_cons, List.sum_cons, List.length_cons] at h1 ⊢
    omega
theorem szs_quote : ∀ (l : List ByteArray), szs (l.map quoteB) + 2 * l.length ≤ costW l
  | [] => by simp [szs, costW]
  | a :: l => by
    have h1 := szs_quote l
    have h2 := quoteT_len a
    have h3 : (quoteB a).size = (quoteT a).length := B_size _
    simp only [szs, costW, List.map_cons, List.sum_cons, List.length_cons] at h1 ⊢
    omega
theorem costW_mem {l : List ByteArray} {s : ByteArray} (h : s ∈ l) : s.size ≤ costW l := by
  induction l with
  | nil => cases h
  | cons a l ih =>
    simp only [costW, List.map_cons, List.sum_cons] at ih ⊢
    rcases List.mem_cons.1 h with rfl | h
    · omega
    · have := ih h; omega
theorem szs_at {l : List ByteArray} {s : ByteArray} (h : s ∈ l) : s.size ≤ szs l := by
  induction l with
  | nil => cases h
  | cons a l ih =>
    simp only [szs, List.map_cons, List.sum_cons] at ih ⊢
    rcases List.mem_cons.1 h with rfl | h
    · omega
    · have := ih h; omega

section
variable {c : World} {I : CM} {F : Hp} {As : List HP} {w : World}

theorem t_listed_int (q : Int → ByteArray) (fv v : Value) (l : List Int) (hf : ∀ (As : List HP) (x : Int), x ∈ l → ∀ w K, St c I F As w → (∀ w', St c I F As w' → K (.string (q x)) w') → oCallV Tryd.prog fv [.int .i64 x] noP w K) (hl : l.length ≤ 1099511627776) (hz : 2 * l.length + szs (l.map q) ≤ 140737488355328) (hs : St c I F As w) (hv : RS Ty.int (Rd I F) I v l) :
    Calls Tryd.prog i_tree_listed_int #[v, fv] w (callR (fun r w' => r = .string (B (joinT [44, 32] (l.map q))) ∧ St c I F As w') noP) := by
  obtain ⟨A, cp, hve, hcp, hcp', hlen⟩ := hv.parts
  rw [hve] at hv ⊢
  refine c_tree_listed_int ?_
  unfold n_tree_listed_int
  refine rLen ?_
  refine rLoop2 (fun x y w' => ∃ k : Nat, y = .int .i64 k ∧ k ≤ l.length ∧ St c I F (OwnSl Ty.str T_string x ((l.take k).map q) :: As) w') (fun _ y _ => match y with | .int _ k => l.length - k.toNat | _ => 0) ⟨0, rfl, Nat.zero_le _, hs.ownNil _ _⟩ ?_
  clear hs
  rintro f w ag hag ⟨k, hk, hkl, hs⟩
  generalize f 5 = x at hs ⊢
  simp only [hk] at hag ⊢
  refine cLss (fun hlt => ?_) (fun hge => ?_)
  · have hkl : k < l.length := by omega
    obtain ⟨b, o, us, hA, hu, ⟨rfl, _⟩, -⟩ := hv.at (i := k) hkl
    have h1 := hs.rdCell (hu 0 (by simp))
    refine rTrue ?_
    rw [hA]
    refine rIA (by omega) (by omega) <| rLoad (by simpa using h1) <| hf _ _ (List.getElem_mem hkl) _ _ hs ?_
    clear hs
    intro w hs
    have hqz : (q l[k]).size ≤ szs (l.map q) := szs_at (List.mem_map_of_mem (List.getElem_mem hkl))
    refine rBuildSS hs [.string (q l[k])] (by decide) (by kernel_rfl) ?_; clear hs
    intro g w hs
    refine rApp1 (x := q l[k]) hs ⟨rfl, by omega⟩ rfl (by rfl) (by decide) (by rw [List.length_map, List.length_take]; omega) (by decide) ?_; clear hs
    intro v' w hs
    refine rAdd (by omega) (by omega) <| hag _ _ _ ⟨k + 1, by simp, by omega, ?_⟩ (by dsimp only; omega)
    rw [List.take_succ_eq_append_getElem hkl, List.map_append]
    exact hs
  · have : k = l.length := by omega
    subst this
    rw [List.take_length] at hs
    obtain ⟨F', hF, hr, hs2, back⟩ := hs.lendSl (by rw [List.length_map]; omega)
    have hj := join_le [44, 32] (l.map q)
    rw [List.length_map] at hj
    have hC := b_Join x (l.map q) ⟨#[44, 32]⟩ hs2 hr (by simp only [List.length_cons, List.length_nil] at hj; show (joinT [44, 32] (l.map q)).length ≤ _; omega)
    refine rFalse <| rCall hC ?_; clear hC hs hs2
    rintro _ w ⟨rfl, hs⟩
    obtain ⟨-, hs⟩ := back _ _ _ (Gr.refl _ _) hs
    exact ⟨rfl, hs.drop⟩

theorem t_listed_string (q : ByteArray → ByteArray) (fv v : Value) (l : List ByteArray) (hf : ∀ (As : List HP) (x : ByteArray), x ∈ l → ∀ w K, St c I F As w → (∀ w', St c I F As w' → K (.string (q x)) w') → oCallV Tryd.prog fv [.string x] noP w K) (hl : l.length ≤ 1099511627776) (hz : 2 * l.length + szs (l.map q) ≤ 140737488355328) (hs : St c I F As w) (hv : RS Ty.str (Rd I F) I v l) :
    Calls Tryd.prog i_tree_listed_string #[v, fv] w (callR (fun r w' => r = .string (B (joinT [44, 32] (l.map q))) ∧ St c I F As w') noP) := by
  obtain ⟨A, cp, hve, hcp, hcp', hlen⟩ := hv.parts
  rw [hve] at hv ⊢
  refine c_tree_listed_string ?_
  unfold n_tree_listed_string
  refine rLen ?_
  refine rLoop2 (fun x y w' => ∃ k : Nat, y = .int .i64 k ∧ k ≤ l.length ∧ St c I F (OwnSl Ty.str T_string x ((l.take k).map q) :: As) w') (fun _ y _ => match y with | .int _ k => l.length - k.toNat | _ => 0) ⟨0, rfl, Nat.zero_le _, hs.ownNil _ _⟩ ?_
  clear hs
  rintro f w ag hag ⟨k, hk, hkl, hs⟩
  generalize f 5 = x at hs ⊢
  simp only [hk] at hag ⊢
  refine cLss (fun hlt => ?_) (fun hge => ?_)
  · have hkl : k < l.length := by omega
    obtain ⟨b, o, us, hA, hu, ⟨rfl, _⟩, -⟩ := hv.at (i := k) hkl
    have h1 := hs.rdCell (hu 0 (by simp))
    refine rTrue ?_
    rw [hA]
    refine rIA (by omega) (by omega) <| rLoad (by simpa using h1) <| hf _ _ (List.getElem_mem hkl) _ _ hs ?_
    clear hs
    intro w hs
    have hqz : (q l[k]).size ≤ szs (l.map q) := szs_at (List.mem_map_of_mem (List.getElem_mem hkl))
    refine rBuildSS hs [.string (q l[k])] (by decide) (by kernel_rfl) ?_; clear hs
    intro g w hs
    refine rApp1 (x := q l[k]) hs ⟨rfl, by omega⟩ rfl (by rfl) (by decide) (by rw [List.length_map, List.length_take]; omega) (by decide) ?_; clear hs
    intro v' w hs
    refine rAdd (by omega) (by omega) <| hag _ _ _ ⟨k + 1, by simp, by omega, ?_⟩ (by dsimp only; omega)
    rw [List.take_succ_eq_append_getElem hkl, List.map_append]
    exact hs
  · have : k = l.length := by omega
    subst this
    rw [List.take_length] at hs
    obtain ⟨F', hF, hr, hs2, back⟩ := hs.lendSl (by rw [List.length_map]; omega)
    have hj := join_le [44, 32] (l.map q)
    rw [List.length_map] at hj
    have hC := b_Join x (l.map q) ⟨#[44, 32]⟩ hs2 hr (by simp only [List.length_cons, List.length_nil] at hj; show (joinT [44, 32] (l.map q)).length ≤ _; omega)
    refine rFalse <| rCall hC ?_; clear hC hs hs2
    rintro _ w ⟨rfl, hs⟩
    obtain ⟨-, hs⟩ := back _ _ _ (Gr.refl _ _) hs
    exact ⟨rfl, hs.drop⟩

theorem RSl.memInt {v : Value} {l : List Int} (h : RSl Ty.int I v l) : ∀ x ∈ l, -9223372036854775808 ≤ x ∧ x ≤ 9223372036854775807 := by
  intro x hx
  obtain ⟨A, cp, rfl, -⟩ := h.rs.parts
  obtain ⟨i, hi, rfl⟩ := List.getElem_of_mem hx
  obtain ⟨b, o, us, -, -, ⟨-, h⟩, -⟩ := h.rs.at (i := i) hi
  exact h

set_option maxHeartbeats 2000000 in
theorem t_predicate (us : List Value) (p : D_api_Pred) (hT : PowT F) (hc : costP p ≤ 1099511627776) (hs : St c I F As w) (hp : Ty_api_Pred.rep (Rd I F) us p) :
    Calls Tryd.prog i_tree_predicate #[.agg us.toArray] w (callR (fun r w' => r = .string (B (predT p)) ∧ (predT p).length ≤ costP p ∧ St c I F As w') noP) := by
  obtain ⟨v2, v3, hus, -, k1, k2, k3, k4, k5⟩ := hp
  subst hus
  have hm := RSl.memInt k2
  have k2' := RS.flat (J := I) flat_int k2.rs
  have k3' := RS.flat (J := I) flat_str k3.rs
  have hat : p.attr.data.toList.length = p.attr.size := by simp
  have hcp : costP p = p.attr.size + 24 * p.ints.length + costW p.words + 64 := rfl
  have hz1 := szs_itoa p.ints hm
  have hj1 := join_le [44, 32] (p.ints.map itoaB)
  have hz2 := szs_quote p.words
  have hj2 := join_le [44, 32] (p.words.map quoteB)
  have hz3 := szs_itoa [p.lo, p.hi] (by intro x hx; simp at hx; rcases hx with rfl | rfl; exact k4; exact k5)
  have hj3 := join_le [44, 32] ([p.lo, p.hi].map itoaB)
  simp only [List.length_map, List.length_cons, List.length_nil] at hj1 hj2 hj3 hz3
  have hfi : ∀ (l : List Int), (∀ x ∈ l, -9223372036854775808 ≤ x ∧ x ≤ 9223372036854775807) → ∀ (As : List HP) (x : Int), x ∈ l → ∀ w K, St c I F As w → (∀ w', St c I F As w' → K (.string (itoaB x)) w') → oCallV Tryd.prog (.func (.func i_strconv_Itoa) #[] #[]) [.int .i64 x] noP w K := fun l hl As x hx w K h hk => rCallF (b_Itoa (hl x hx) hT h) (by rintro _ w ⟨rfl, h⟩; exact hk _ h)
  have hfs : ∀ (As : List HP) (x : ByteArray), x ∈ p.words → ∀ w K, St c I F As w → (∀ w', St c I F As w' → K (.string (quoteB x)) w') → oCallV Tryd.prog (.func (.func i_value_Quote) #[] #[]) [.string x] noP w K := fun As x hx w K h hk => rCallF (b_Quote x (by have := costW_mem hx; omega) h) (by rintro _ w ⟨rfl, h⟩; exact hk _ h)
  refine c_tree_predicate ?_
  unfold n_tree_predicate
  refine rBoxS hs _ rfl ?_; clear hs
  intro g w hs
  refine rFA <| rLdS hs rfl <| cEql (fun e1 => ?_) (fun e1 => ?_)
  · have hpt : predT p = p.attr.data.toList ++ [32, 123] ++ joinT [44, 32] (p.ints.map itoaB) ++ [125] := by rw [predT, if_pos e1]
    have hs := hs.drew
    refine rTrue ⟨fun w1 => ∀ j, w1.cell? ⟨g, j, none⟩ = [Value.int .i64 p.kind, .string p.attr, v2, v3, .int .i64 p.lo, .int .i64 p.hi][j]?, hs.cell, ?_⟩
    refine rFA <| rHL (fun w1 h => (h 1).trans rfl) <| rD rfl <| rAddStr (by show p.attr.size + 2 ≤ _; omega) ?_
    rw [B_app' p.attr [32, 123]]
    refine rFA <| rHL (fun w1 h => (h 2).trans rfl) ?_
    have hC := t_listed_int itoaB _ _ p.ints (hfi p.ints hm) (by omega) (by omega) hs k2'
    refine rCall hC ?_; clear hC hs
    rintro _ w ⟨rfl, hs⟩
    refine ⟨hs.cell, rD rfl <| rAddStr (by rw [B_size, B_size, List.length_append]; simp only [List.length_cons, List.length_nil]; omega) ?_⟩
    rw [B_app]
    refine rD rfl <| rAddStr (by rw [B_size]; show _ + 1 ≤ _; simp only [List.length_append, List.length_cons, List.length_nil]; omega) ?_
    rw [B_app]
    exact ⟨by rw [hpt], by rw [hpt]; simp only [List.length_append, List.length_cons, List.length_nil]; omega, hs.drop⟩
  refine rFalse <| cEql (fun e2 => ?_) (fun e2 => ?_)
  · have hpt : predT p = p.attr.data.toList ++ [32, 123] ++ joinT [44, 32] (p.words.map quoteB) ++ [125] := by rw [predT, if_neg e1, if_pos e2]
    have hs := hs.drew
    refine rTrue ⟨fun w1 => ∀ j, w1.cell? ⟨g, j, none⟩ = [Value.int .i64 p.kind, .string p.attr, v2, v3, .int .i64 p.lo, .int .i64 p.hi][j]?, hs.cell, ?_⟩
    refine rFA <| rHL (fun w1 h => (h 1).trans rfl) <| rD rfl <| rAddStr (by show p.attr.size + 2 ≤ _; omega) ?_
    rw [B_app' p.attr [32, 123]]
    refine rFA <| rHL (fun w1 h => (h 3).trans rfl) ?_
    have hC := t_listed_string quoteB _ _ p.words hfs (by omega) (by omega) hs k3'
    refine rCall hC ?_; clear hC hs
    rintro _ w ⟨rfl, hs⟩
    refine ⟨hs.cell, rD rfl <| rAddStr (by rw [B_size, B_size, List.length_append]; simp only [List.length_cons, List.length_nil]; omega) ?_⟩
    rw [B_app]
    refine rD rfl <| rAddStr (by rw [B_size]; show _ + 1 ≤ _; simp only [List.length_append, List.length_cons, List.length_nil]; omega) ?_
    rw [B_app]
    exact ⟨by rw [hpt], by rw [hpt]; simp only [List.length_append, List.length_cons, List.length_nil]; omega, hs.drop⟩
  refine rFalse <| cEql (fun e3 => ?_) (fun e3 => ?_)
  · have hpt : predT p = p.attr.data.toList ++ [32, 91] ++ joinT [44, 32] ([p.lo, p.hi].map itoaB) ++ [93] := by rw [predT, if_neg e1, if_neg e2, if_pos e3]
    have hs := hs.drew
    refine rTrue ⟨fun w1 => ∀ j, w1.cell? ⟨g, j, none⟩ = [Value.int .i64 p.kind, .string p.attr, v2, v3, .int .i64 p.lo, .int .i64 p.hi][j]?, hs.cell, ?_⟩
    refine rFA <| rHL (fun w1 h => (h 1).trans rfl) <| rD rfl <| rAddStr (by show p.attr.size + 2 ≤ _; omega) ?_
    rw [B_app' p.attr [32, 91]]
    refine rFA <| rHL (fun w1 h => (h 4).trans rfl) <| rFA <| rHL (fun w1 h => (h 5).trans rfl) ?_
    refine rBuildSS hs [.int .i64 p.lo, .int .i64 p.hi] (by decide) (by kernel_rfl) ?_; clear hs
    intro g2 w hs
    refine ⟨hs.p1.cell, ?_⟩
    have hlh : ∀ x ∈ [p.lo, p.hi], -9223372036854775808 ≤ x ∧ x ≤ 9223372036854775807 := by intro x hx; simp at hx; rcases hx with rfl | rfl; exact k4; exact k5
    have hs1 := hs.ownInts (l := [p.lo, p.hi]) hlh (by simp) 2 rfl
    obtain ⟨F', hF, hr, hs2, back⟩ := hs1.lendSl (by simp)
    have hC := t_listed_int itoaB (.func (.func i_strconv_Itoa) #[] #[]) _ [p.lo, p.hi] (fun As x hx w K h hk => rCallF (b_Itoa (hlh x hx) (hT.mono hF) h) (by rintro _ w ⟨rfl, h⟩; exact hk _ h)) (by simp) (by simp only [List.length_cons, List.length_nil]; omega) hs2 hr
    refine rCall hC ?_; clear hC hs hs1 hs2
    rintro _ w ⟨rfl, hs⟩
    obtain ⟨-, hs⟩ := back _ _ _ (Gr.refl _ _) hs
    have hs := hs.drop
    refine ⟨hs.cell, rD rfl <| rAddStr (by rw [B_size, B_size, List.length_append]; simp only [List.length_cons, List.length_nil]; omega) ?_⟩
    rw [B_app]
    refine rD rfl <| rAddStr (by rw [B_size]; show _ + 1 ≤ _; simp only [List.length_append, List.length_cons, List.length_nil]; omega) ?_
    rw [B_app]
    exact ⟨by rw [hpt], by rw [hpt]; simp only [List.length_append, List.length_cons, List.length_nil]; omega, hs.drop⟩
  · have hpt : predT p = p.attr.data.toList ++ [32] ++ joinT [44, 32] (p.words.map quoteB) ++ [42] := by rw [predT, if_neg e1, if_neg e2, if_neg e3]
    have hs := hs.drew
    refine rFalse ⟨fun w1 => ∀ j, w1.cell? ⟨g, j, none⟩ = [Value.int .i64 p.kind, .string p.attr, v2, v3, .int .i64 p.lo, .int .i64 p.hi][j]?, hs.cell, ?_⟩
    refine rFA <| rHL (fun w1 h => (h 1).trans rfl) <| rD rfl <| rAddStr (by show p.attr.size + 1 ≤ _; omega) ?_
    rw [B_app' p.attr [32]]
    refine rFA <| rHL (fun w1 h => (h 3).trans rfl) ?_
    have hC := t_listed_string quoteB _ _ p.words hfs (by omega) (by omega) hs k3'
    refine rCall hC ?_; clear hC hs
    rintro _ w ⟨rfl, hs⟩
    refine ⟨hs.cell, rD rfl <| rAddStr (by rw [B_size, B_size, List.length_append]; simp only [List.length_cons, List.length_nil]; omega) ?_⟩
    rw [B_app]
    refine rD rfl <| rAddStr (by rw [B_size]; show _ + 1 ≤ _; simp only [List.length_append, List.length_cons, List.length_nil]; omega) ?_
    rw [B_app]
    exact ⟨by rw [hpt], by rw [hpt]; simp only [List.length_append, List.length_cons, List.length_nil]; omega, hs.drop⟩
end
end Go.Proofs.YtlbihkgfejgefaaDoor
