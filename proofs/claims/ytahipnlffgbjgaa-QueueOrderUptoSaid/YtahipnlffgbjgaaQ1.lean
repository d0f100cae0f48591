/- Contracts of the queue's functions. -/
import Derived.Test.YtahipnlffgbjgaaN0
import Derived.Test.YtahipnlffgbjgaaN1
namespace Go.Proofs.Ytahipnlffgbjgaa
open Go L
set_option linter.unusedVariables false

structure ItemD where
  name : ByteArray
  n : Int

def TyItem : Ty ItemD where
  n := 2
  rep _ us a := us = [.string a.name, .int .i64 a.n] ∧ a.name.size ≤ 140737488355328 ∧ -9223372036854775808 ≤ a.n ∧ a.n ≤ 9223372036854775807
  len h := by rw [h.1]; rfl
  mono _ h := h
  one h u hu := by rw [h.1] at hu; simp at hu; rcases hu with rfl | rfl <;> rfl

theorem s_Clone_int (S : List Nat) (v : Value) (l : List Int) (w : World) (hr : RSl Ty.int (hide w S) v l) (hl : l.length ≤ 1099511627776) :
    Calls Try.prog i_slices_Clone_int_int #[v] w (callR (fun v' w' => Mod [] w w' ∧ Own Ty.int w.heap.size w' S T_int v' l) noP) := by
  have hr0 := hr
  obtain ⟨A, n, c, rfl, hn, hc, hc', hn', hh⟩ := hr
  refine c_slices_Clone_int_int ?_
  unfold n_slices_Clone_int_int
  refine rEqlNil ?_
  cases A with
  | none =>
    refine rTrue ⟨Mod.refl _ _, ?_⟩
    have h0 : n = 0 := by
      rcases Nat.eq_zero_or_pos n with h | h
      · exact h
      · obtain ⟨b, o, h1, _⟩ := hh (by omega); cases h1
    have : l = [] := List.eq_nil_of_length_eq_zero (by omega)
    subst this
    exact Own.nil _ _ _ _ _
  | some a =>
    refine rFalse (rBuildS0 ?_)
    intro w1 hm hb hs
    refine rAppend (T := Ty.int) (base := w.heap.size) (S := S) (l := []) (m := l) (hb.own (Nat.le_refl _)) (hr0.mono (hide_le_new hm (by simp) (by intro k hk; simp [ob, Value.ownBlock] at hk; rcases hk with rfl | hk; exact .inr (Nat.le_refl _); exact .inl hk))) rfl (by rfl) (by decide) (by simp; omega) (by decide) (by omega) ?_
    intro v' w2 hown hm2 hle hob
    exact ⟨hm.trans_new hm2 (by intro x hx; simp [ob, Value.ownBlock] at hx; exact .inr (by omega)), by simpa using hown⟩
theorem s_Clone_string (S : List Nat) (v : Value) (l : List ByteArray) (w : World) (hr : RSl Ty.str (hide w S) v l) (hl : l.length ≤ 1099511627776) :
    Calls Try.prog i_slices_Clone_string_string #[v] w (callR (fun v' w' => Mod [] w w' ∧ Own Ty.str w.heap.size w' S T_string v' l) noP) := by
  have hr0 := hr
  obtain ⟨A, n, c, rfl, hn, hc, hc', hn', hh⟩ := hr
  refine c_slices_Clone_string_string ?_
  unfold n_slices_Clone_string_string
  refine rEqlNil ?_
  cases A with
  | none =>
    refine rTrue ⟨Mod.refl _ _, ?_⟩
    have h0 : n = 0 := by
      rcases Nat.eq_zero_or_pos n with h | h
      · exact h
      · obtain ⟨b, o, h1, _⟩ := hh (by omega); cases h1
    have : l = [] := List.eq_nil_of_length_eq_zero (by omega)
    subst this
    exact Own.nil _ _ _ _ _
  | some a =>
    refine rFalse (rBuildS0 ?_)
    intro w1 hm hb hs
    refine rAppend (T := Ty.str) (base := w.heap.size) (S := S) (l := []) (m := l) (hb.own (Nat.le_refl _)) (hr0.mono (hide_le_new hm (by simp) (by intro k hk; simp [ob, Value.ownBlock] at hk; rcases hk with rfl | hk; exact .inr (Nat.le_refl _); exact .inl hk))) rfl (by rfl) (by decide) (by simp; omega) (by decide) (by omega) ?_
    intro v' w2 hown hm2 hle hob
    exact ⟨hm.trans_new hm2 (by intro x hx; simp [ob, Value.ownBlock] at hx; exact .inr (by omega)), by simpa using hown⟩
theorem s_Clone_trommellaw21_item (S : List Nat) (v : Value) (l : List ItemD) (w : World) (hr : RSl TyItem (hide w S) v l) (hl : l.length ≤ 1099511627776) :
    Calls Try.prog i_slices_Clone_trommellaw21_item_trommellaw21_item #[v] w (callR (fun v' w' => Mod [] w w' ∧ Own TyItem w.heap.size w' S T_trommellaw21_item v' l) noP) := by
  have hr0 := hr
  obtain ⟨A, n, c, rfl, hn, hc, hc', hn', hh⟩ := hr
  refine c_slices_Clone_trommellaw21_item_trommellaw21_item ?_
  unfold n_slices_Clone_trommellaw21_item_trommellaw21_item
  refine rEqlNil ?_
  cases A with
  | none =>
    refine rTrue ⟨Mod.refl _ _, ?_⟩
    have h0 : n = 0 := by
      rcases Nat.eq_zero_or_pos n with h | h
      · exact h
      · obtain ⟨b, o, h1, _⟩ := hh (by omega); cases h1
    have : l = [] := List.eq_nil_of_length_eq_zero (by omega)
    subst this
    exact Own.nil _ _ _ _ _
  | some a =>
    refine rFalse (rBuildS0 ?_)
    intro w1 hm hb hs
    refine rAppend (T := TyItem) (base := w.heap.size) (S := S) (l := []) (m := l) (hb.own (Nat.le_refl _)) (hr0.mono (hide_le_new hm (by simp) (by intro k hk; simp [ob, Value.ownBlock] at hk; rcases hk with rfl | hk; exact .inr (Nat.le_refl _); exact .inl hk))) rfl (by rfl) (by decide) (by simp; omega) (by decide) (by omega) ?_
    intro v' w2 hown hm2 hle hob
    exact ⟨hm.trans_new hm2 (by intro x hx; simp [ob, Value.ownBlock] at hx; exact .inr (by omega)), by simpa using hown⟩

/-- a queue at block g: its room, its items (in the slice v, a block of its own) -/
structure IsQ {α : Type} (T : Ty α) (TQ E base : Nat) (w : World) (S : List Nat) (g : Nat) (v : Value) (most : Int) (l : List α) : Prop where
  blk : Blk w g [.int .i64 l.length, .int .i64 most, v] TQ
  own : Own T base w (g :: S) E v l
  low : base ≤ g
  apart : ∀ k ∈ ob v, k ∉ g :: S
  most1 : 1 ≤ most
  most2 : most ≤ 16
  fits : (l.length : Int) ≤ most

theorem IsQ.mod {α : Type} {T : Ty α} {TQ E base : Nat} {w w' : World} {S : List Nat} {g : Nat} {v : Value} {most : Int} {l : List α} (h : IsQ T TQ E base w S g v most l) {M : List Nat} (hm : Mod M w w') (hM : ∀ k ∈ M, k ∈ S) (hg : g ∉ M) (hv : ∀ k ∈ ob v, k ∉ M) : IsQ T TQ E base w' S g v most l :=
  ⟨h.blk.mod hm hg, h.own.mod hm (fun k hk => List.mem_cons_of_mem _ (hM k hk)) (fun k hk hk' => hv k hk' hk), h.low, h.apart, h.most1, h.most2, h.fits⟩

theorem flat_item : Flat TyItem := fun _ _ _ _ h => h

theorem IsQ.modF {α : Type} {T : Ty α} (hT : Flat T) {TQ E base : Nat} {w w' : World} {g : Nat} {v : Value} {most : Int} {l : List α} (h : IsQ T TQ E base w [] g v most l) {M : List Nat} (hm : Mod M w w') (hg : g ∉ M) (hv : ∀ k ∈ ob v, k ∉ M) : IsQ T TQ E base w' [] g v most l :=
  ⟨h.blk.mod hm hg, h.own.modF hT hm (fun k hk hk' => hv k hk' hk), h.low, h.apart, h.most1, h.most2, h.fits⟩

theorem IsQ.block {α : Type} {T : Ty α} {TQ E base : Nat} {w : World} {S : List Nat} {g : Nat} {v : Value} {most : Int} {l : List α} (h : IsQ T TQ E base w S g v most l) : ∀ k ∈ ob v, base ≤ k ∧ k < w.heap.size := h.own.block

theorem s_Room (g : Nat) (i m : Int) (rest : List Value) (E : Nat) (w : World) (hb : Blk w g (.int .i64 i :: .int .i64 m :: rest) E) (h1 : 0 ≤ i) (h2 : i ≤ m) (h3 : m ≤ 16) :
    Calls Try.prog i_queue_Fill_Room #[.pointer (some ⟨g, 0, none⟩)] w (callR (fun r w' => r = .int .i64 (m - i) ∧ Mod [] w w') noP) := by
  refine c_queue_Fill_Room ?_
  unfold n_queue_Fill_Room
  refine rD rfl (rNil (rFA (rLD (v := .int .i64 m) ?_ (rD rfl (rNil (rFA (rLD (v := .int .i64 i) ?_ (rD rfl (rSub (by omega) (by omega) ?_)))))))))
  · exact hb.cell 1
  · exact hb.cell 0
  · exact ⟨rfl, (Mod.refl _ _).drew⟩

theorem s_Len (g : Nat) (i : Int) (rest : List Value) (E : Nat) (w : World) (hb : Blk w g (.int .i64 i :: rest) E) :
    Calls Try.prog i_queue_Fill_Len #[.pointer (some ⟨g, 0, none⟩)] w (callR (fun r w' => r = .int .i64 i ∧ Mod [] w w') noP) := by
  refine c_queue_Fill_Len ?_
  unfold n_queue_Fill_Len
  refine rNil (rFA (rLoad (v := .int .i64 i) (hb.cell 0) ⟨rfl, Mod.refl _ _⟩))

theorem s_New_int (S : List Nat) (n : Int) (w : World) (hS : ∀ k ∈ S, k < w.heap.size) :
    Calls Try.prog i_queue_New_int #[.int .i64 n] w (callR (fun r w' => r = .pointer (some ⟨w.heap.size, 0, none⟩) ∧ Mod [] w w' ∧ IsQ Ty.int T_queue_Queue_int T_int w.heap.size w' S w.heap.size (.slice none 0 0) (min (max n 1) 16) []) noP) := by
  refine c_queue_New_int ?_
  unfold n_queue_New_int
  refine rMax (rMin (rBuild [.int .i64 0, .int .i64 (min (max n 1) 16)] rfl (rBuild [.int .i64 0, .int .i64 (min (max n 1) 16), .slice none 0 0] rfl (rBox [.int .i64 0, .int .i64 (min (max n 1) 16), .slice none 0 0] rfl ?_))))
  intro w' hm hb hs
  refine ⟨rfl, hm, hb, Own.nil _ _ _ _ _, Nat.le_refl _, by simp [ob, Value.ownBlock], by omega, by omega, by simp; omega⟩

theorem s_Put_int (base : Nat) (S : List Nat) (g : Nat) (v x : Value) (most : Int) (l m : List Int) (w : World) (hq : IsQ Ty.int T_queue_Queue_int T_int base w S g v most l) (hx : RSl Ty.int (hide w (ob v ++ g :: S)) x m) (hS : ∀ k ∈ S, k < w.heap.size) (hbw : base ≤ w.heap.size) :
    Calls Try.prog i_queue_Queue_int_Put #[.pointer (some ⟨g, 0, none⟩), x] w (callR (fun r w' => ∃ v' k, r = .int .i64 (k : Nat) ∧ (k : Int) = min (m.length : Int) (most - l.length) ∧ IsQ Ty.int T_queue_Queue_int T_int base w' S g v' most (l ++ m.take k) ∧ Mod (g :: ob v) w w' ∧ (∀ j ∈ ob v', j ∈ ob v ∨ w.heap.size ≤ j)) noP) := by
  have h16 := hq.most2
  have h1 := hq.most1
  have hf := hq.fits
  obtain ⟨A, n, c, rfl, hn, hnc, hc, hn', _⟩ := id hx
  refine c_queue_Queue_int_Put ?_
  unfold n_queue_Queue_int_Put
  refine rLen (rNil (rFA ?_))
  have hR := s_Room g l.length most [v] T_queue_Queue_int w hq.blk (by omega) hf h16
  refine rCall hR ?_
  clear hR
  rintro _ w1 ⟨rfl, hm1⟩
  refine rMin ?_
  obtain ⟨k, hk⟩ : ∃ k : Nat, (k : Int) = min (n : Int) (most - l.length) := ⟨(min (n : Int) (most - l.length)).toNat, by omega⟩
  rw [← hk]
  have hm1d : Mod [] w w1.drew := hm1.drew
  have hb1 := hq.blk.mod hm1d (by simp)
  have ho1 := hq.own.mod hm1d (by simp) (by simp)
  refine rD rfl (rNil (rFA (rLD (v := v) (hb1.cell 2) (rSL (l := 0) (m := k) (.inl ⟨rfl, rfl⟩) (.inr ⟨_, rfl⟩) (Nat.zero_le _) (by omega) ?_))))
  rw [slA_zero]
  have hx1 := ((hx.mono (hide_le hm1d (by simp))).take0 (m := k) (by omega))
  refine rAppend (T := Ty.int) ho1 hx1 rfl (by rfl) (by decide) (by simp; omega) (by decide) (Nat.le_trans hbw hm1d.size) ?_
  intro v' w2 hown hm2 hle hob
  have hb2 := hb1.mod hm2 (fun h => hq.apart g h (List.mem_cons_self ..))
  have hgv' : ∀ j ∈ ob v', j ∉ g :: S := by
    intro j hj hjs
    rcases hob j hj with h | h
    · exact hq.apart j h hjs
    · have := hm1d.size
      rcases List.mem_cons.1 hjs with rfl | hjS
      · have := hq.blk.lt; omega
      · have := hS j hjS; omega
  refine rD rfl (rNil (rFA (rStore hb2 (by simp) hown.one ?_)))
  intro w3 hm3 hb3 _
  have hown3 := hown.mod hm3 (by simp) (by intro j hj hj'; simp at hj; subst hj; exact hgv' _ hj' (List.mem_cons_self ..))
  refine rNil (rFA (rFA (rLoad (v := .int .i64 l.length) (hb3.cell 0) (rAdd (by omega) (by omega) (rNil (rFA (rFA (rStore hb3 (by simp) rfl ?_))))))))
  intro w4 hm4 hb4 _
  have hown4 := hown3.mod hm4 (by simp) (by intro j hj hj'; simp at hj; subst hj; exact hgv' _ hj' (List.mem_cons_self ..))
  have hlen : (l ++ m.take k).length = l.length + k := by simp; omega
  refine ⟨v', k, rfl, by omega, ⟨?_, hown4, hq.low, hgv', h1, h16, by rw [hlen]; omega⟩, ?_, ?_⟩
  · rw [hlen]; simpa using hb4
  · exact (hm1d.mono (by simp)).trans (((hm2.mono (fun j hj => List.mem_cons_of_mem _ hj)).trans (hm3.mono (by simp))).trans (hm4.mono (by simp)))
  · intro j hj
    rcases hob j hj with h | h
    · exact .inl h
    · exact .inr (Nat.le_trans hm1d.size h)

theorem s_Take_int (base : Nat) (S : List Nat) (g : Nat) (v : Value) (most : Int) (l : List Int) (n : Int) (w : World) (hq : IsQ Ty.int T_queue_Queue_int T_int base w S g v most l) (hS : ∀ k ∈ S, k < w.heap.size) (hbw : base ≤ w.heap.size) :
    Calls Try.prog i_queue_Queue_int_Take #[.pointer (some ⟨g, 0, none⟩), .int .i64 n] w (callR (fun r w' => ∃ v' k, (k : Nat) = min (max n 0) (l.length : Int) ∧ Own Ty.int w.heap.size w' (g :: S) T_int r (l.take k) ∧ IsQ Ty.int T_queue_Queue_int T_int base w' S g v' most (l.drop k) ∧ Mod [g] w w' ∧ (∀ j ∈ ob v', w.heap.size ≤ j) ∧ (∀ j ∈ ob r, j ∉ ob v')) noP) := by
  have h16 := hq.most2
  have h1 := hq.most1
  have hf := hq.fits
  have hg := hq.blk.lt
  have hl : l.length ≤ 16 := by omega
  obtain ⟨A, c, rfl, hc, hc', _⟩ := hq.own.shape
  have hr := hq.own.read (fun k hk => hq.apart k hk) (by omega)
  refine c_queue_Queue_int_Take ?_
  unfold n_queue_Queue_int_Take
  refine rMax (rNil (rFA (rFA (rLoad (hq.blk.cell 0) (rMin ?_)))))
  obtain ⟨k, hk⟩ : ∃ k : Nat, (k : Int) = min (max n 0) (l.length : Int) := ⟨(min (max n 0) (l.length : Int)).toNat, by omega⟩
  rw [← hk]
  refine rNil (rFA (rLoad (hq.blk.cell 2) (rSL (l := 0) (m := k) (.inl ⟨rfl, rfl⟩) (.inr ⟨_, rfl⟩) (Nat.zero_le _) (by omega) ?_)))
  rw [slA_zero]
  have hC := s_Clone_int (g :: S) _ _ w (hr.take0 (m := k) (by omega)) (by simp; omega)
  refine rCall hC ?_
  clear hC
  rintro out w1 ⟨hm1, ho1⟩
  have hb1 := hq.blk.mod hm1 (by simp)
  have hr1 := hr.mono (hide_le hm1 (by simp))
  refine rNil (rFA (rLoad (hb1.cell 2) (rSL (l := k) (m := l.length) (.inr ⟨_, rfl⟩) (.inl ⟨rfl, rfl⟩) (by omega) (by omega) ?_)))
  have hC := s_Clone_int (g :: S) _ _ w1 (hr1.cut (lo := k) (m := l.length) (by omega) (Nat.le_refl _)) (by simp; omega)
  refine rCall hC ?_
  clear hC
  rintro v2 w2 ⟨hm2, ho2⟩
  have e : (l.drop k).take (l.length - k) = l.drop k := List.take_of_length_le (by simp)
  rw [e] at ho2
  have hb2 := hb1.mod hm2 (by simp)
  have ho1' := ho1.mod hm2 (by simp) (by simp)
  have hsz1 := hm1.size
  have hgo : ∀ j ∈ ob out, w.heap.size ≤ j ∧ j < w1.heap.size := ho1.block
  have hgv : ∀ j ∈ ob v2, w1.heap.size ≤ j := fun j hj => (ho2.block j hj).1
  have hapart : ∀ j ∈ ob v2, j ∉ g :: S := by
    intro j hj hjs
    have := hgv j hj
    rcases List.mem_cons.1 hjs with rfl | hjS
    · omega
    · have := hS j hjS; omega
  refine rNil (rFA (rStore hb2 (by simp) ho2.one ?_))
  intro w3 hm3 hb3 _
  have ho13 := ho1'.mod hm3 (by simp) (by intro j hj hj'; simp at hj; subst hj; have := (hgo _ hj').1; omega)
  have ho23 := ho2.mod hm3 (by simp) (by intro j hj hj'; simp at hj; subst hj; have := hgv _ hj'; omega)
  refine rNil (rFA (rFA (rLoad (hb3.cell 0) (rSub (by omega) (by omega) (rNil (rFA (rFA (rStore hb3 (by simp) rfl ?_))))))))
  intro w4 hm4 hb4 _
  have ho14 := ho13.mod hm4 (by simp) (by intro j hj hj'; simp at hj; subst hj; have := (hgo _ hj').1; omega)
  have ho24 := ho23.mod hm4 (by simp) (by intro j hj hj'; simp at hj; subst hj; have := hgv _ hj'; omega)
  refine ⟨v2, k, by first | exact hk | rfl, ho14, ⟨?_, ho24.base (by omega), hq.low, hapart, h1, h16, by simp; omega⟩, ?_, fun j hj => Nat.le_trans hsz1 (hgv j hj), fun j hj hj' => ?_⟩
  · have : ((l.drop k).length : Int) = l.length - k := by simp; omega
    rw [this]; simpa using hb4
  · exact (hm1.nil.trans hm2.nil).trans (hm3.trans hm4)
  · have := (hgo j hj).2; have := hgv j hj'; omega

theorem s_New_string (S : List Nat) (n : Int) (w : World) (hS : ∀ k ∈ S, k < w.heap.size) :
    Calls Try.prog i_queue_New_string #[.int .i64 n] w (callR (fun r w' => r = .pointer (some ⟨w.heap.size, 0, none⟩) ∧ Mod [] w w' ∧ IsQ Ty.str T_queue_Queue_string T_string w.heap.size w' S w.heap.size (.slice none 0 0) (min (max n 1) 16) []) noP) := by
  refine c_queue_New_string ?_
  unfold n_queue_New_string
  refine rMax (rMin (rBuild [.int .i64 0, .int .i64 (min (max n 1) 16)] rfl (rBuild [.int .i64 0, .int .i64 (min (max n 1) 16), .slice none 0 0] rfl (rBox [.int .i64 0, .int .i64 (min (max n 1) 16), .slice none 0 0] rfl ?_))))
  intro w' hm hb hs
  refine ⟨rfl, hm, hb, Own.nil _ _ _ _ _, Nat.le_refl _, by simp [ob, Value.ownBlock], by omega, by omega, by simp; omega⟩

theorem s_Put_string (base : Nat) (S : List Nat) (g : Nat) (v x : Value) (most : Int) (l m : List ByteArray) (w : World) (hq : IsQ Ty.str T_queue_Queue_string T_string base w S g v most l) (hx : RSl Ty.str (hide w (ob v ++ g :: S)) x m) (hS : ∀ k ∈ S, k < w.heap.size) (hbw : base ≤ w.heap.size) :
    Calls Try.prog i_queue_Queue_string_Put #[.pointer (some ⟨g, 0, none⟩), x] w (callR (fun r w' => ∃ v' k, r = .int .i64 (k : Nat) ∧ (k : Int) = min (m.length : Int) (most - l.length) ∧ IsQ Ty.str T_queue_Queue_string T_string base w' S g v' most (l ++ m.take k) ∧ Mod (g :: ob v) w w' ∧ (∀ j ∈ ob v', j ∈ ob v ∨ w.heap.size ≤ j)) noP) := by
  have h16 := hq.most2
  have h1 := hq.most1
  have hf := hq.fits
  obtain ⟨A, n, c, rfl, hn, hnc, hc, hn', _⟩ := id hx
  refine c_queue_Queue_string_Put ?_
  unfold n_queue_Queue_string_Put
  refine rLen (rNil (rFA ?_))
  have hR := s_Room g l.length most [v] T_queue_Queue_string w hq.blk (by omega) hf h16
  refine rCall hR ?_
  clear hR
  rintro _ w1 ⟨rfl, hm1⟩
  refine rMin ?_
  obtain ⟨k, hk⟩ : ∃ k : Nat, (k : Int) = min (n : Int) (most - l.length) := ⟨(min (n : Int) (most - l.length)).toNat, by omega⟩
  rw [← hk]
  have hm1d : Mod [] w w1.drew := hm1.drew
  have hb1 := hq.blk.mod hm1d (by simp)
  have ho1 := hq.own.mod hm1d (by simp) (by simp)
  refine rD rfl (rNil (rFA (rLD (v := v) (hb1.cell 2) (rSL (l := 0) (m := k) (.inl ⟨rfl, rfl⟩) (.inr ⟨_, rfl⟩) (Nat.zero_le _) (by omega) ?_))))
  rw [slA_zero]
  have hx1 := ((hx.mono (hide_le hm1d (by simp))).take0 (m := k) (by omega))
  refine rAppend (T := Ty.str) ho1 hx1 rfl (by rfl) (by decide) (by simp; omega) (by decide) (Nat.le_trans hbw hm1d.size) ?_
  intro v' w2 hown hm2 hle hob
  have hb2 := hb1.mod hm2 (fun h => hq.apart g h (List.mem_cons_self ..))
  have hgv' : ∀ j ∈ ob v', j ∉ g :: S := by
    intro j hj hjs
    rcases hob j hj with h | h
    · exact hq.apart j h hjs
    · have := hm1d.size
      rcases List.mem_cons.1 hjs with rfl | hjS
      · have := hq.blk.lt; omega
      · have := hS j hjS; omega
  refine rD rfl (rNil (rFA (rStore hb2 (by simp) hown.one ?_)))
  intro w3 hm3 hb3 _
  have hown3 := hown.mod hm3 (by simp) (by intro j hj hj'; simp at hj; subst hj; exact hgv' _ hj' (List.mem_cons_self ..))
  refine rNil (rFA (rFA (rLoad (v := .int .i64 l.length) (hb3.cell 0) (rAdd (by omega) (by omega) (rNil (rFA (rFA (rStore hb3 (by simp) rfl ?_))))))))
  intro w4 hm4 hb4 _
  have hown4 := hown3.mod hm4 (by simp) (by intro j hj hj'; simp at hj; subst hj; exact hgv' _ hj' (List.mem_cons_self ..))
  have hlen : (l ++ m.take k).length = l.length + k := by simp; omega
  refine ⟨v', k, rfl, by omega, ⟨?_, hown4, hq.low, hgv', h1, h16, by rw [hlen]; omega⟩, ?_, ?_⟩
  · rw [hlen]; simpa using hb4
  · exact (hm1d.mono (by simp)).trans (((hm2.mono (fun j hj => List.mem_cons_of_mem _ hj)).trans (hm3.mono (by simp))).trans (hm4.mono (by simp)))
  · intro j hj
    rcases hob j hj with h | h
    · exact .inl h
    · exact .inr (Nat.le_trans hm1d.size h)

theorem s_Take_string (base : Nat) (S : List Nat) (g : Nat) (v : Value) (most : Int) (l : List ByteArray) (n : Int) (w : World) (hq : IsQ Ty.str T_queue_Queue_string T_string base w S g v most l) (hS : ∀ k ∈ S, k < w.heap.size) (hbw : base ≤ w.heap.size) :
    Calls Try.prog i_queue_Queue_string_Take #[.pointer (some ⟨g, 0, none⟩), .int .i64 n] w (callR (fun r w' => ∃ v' k, (k : Nat) = min (max n 0) (l.length : Int) ∧ Own Ty.str w.heap.size w' (g :: S) T_string r (l.take k) ∧ IsQ Ty.str T_queue_Queue_string T_string base w' S g v' most (l.drop k) ∧ Mod [g] w w' ∧ (∀ j ∈ ob v', w.heap.size ≤ j) ∧ (∀ j ∈ ob r, j ∉ ob v')) noP) := by
  have h16 := hq.most2
  have h1 := hq.most1
  have hf := hq.fits
  have hg := hq.blk.lt
  have hl : l.length ≤ 16 := by omega
  obtain ⟨A, c, rfl, hc, hc', _⟩ := hq.own.shape
  have hr := hq.own.read (fun k hk => hq.apart k hk) (by omega)
  refine c_queue_Queue_string_Take ?_
  unfold n_queue_Queue_string_Take
  refine rMax (rNil (rFA (rFA (rLoad (hq.blk.cell 0) (rMin ?_)))))
  obtain ⟨k, hk⟩ : ∃ k : Nat, (k : Int) = min (max n 0) (l.length : Int) := ⟨(min (max n 0) (l.length : Int)).toNat, by omega⟩
  rw [← hk]
  refine rNil (rFA (rLoad (hq.blk.cell 2) (rSL (l := 0) (m := k) (.inl ⟨rfl, rfl⟩) (.inr ⟨_, rfl⟩) (Nat.zero_le _) (by omega) ?_)))
  rw [slA_zero]
  have hC := s_Clone_string (g :: S) _ _ w (hr.take0 (m := k) (by omega)) (by simp; omega)
  refine rCall hC ?_
  clear hC
  rintro out w1 ⟨hm1, ho1⟩
  have hb1 := hq.blk.mod hm1 (by simp)
  have hr1 := hr.mono (hide_le hm1 (by simp))
  refine rNil (rFA (rLoad (hb1.cell 2) (rSL (l := k) (m := l.length) (.inr ⟨_, rfl⟩) (.inl ⟨rfl, rfl⟩) (by omega) (by omega) ?_)))
  have hC := s_Clone_string (g :: S) _ _ w1 (hr1.cut (lo := k) (m := l.length) (by omega) (Nat.le_refl _)) (by simp; omega)
  refine rCall hC ?_
  clear hC
  rintro v2 w2 ⟨hm2, ho2⟩
  have e : (l.drop k).take (l.length - k) = l.drop k := List.take_of_length_le (by simp)
  rw [e] at ho2
  have hb2 := hb1.mod hm2 (by simp)
  have ho1' := ho1.mod hm2 (by simp) (by simp)
  have hsz1 := hm1.size
  have hgo : ∀ j ∈ ob out, w.heap.size ≤ j ∧ j < w1.heap.size := ho1.block
  have hgv : ∀ j ∈ ob v2, w1.heap.size ≤ j := fun j hj => (ho2.block j hj).1
  have hapart : ∀ j ∈ ob v2, j ∉ g :: S := by
    intro j hj hjs
    have := hgv j hj
    rcases List.mem_cons.1 hjs with rfl | hjS
    · omega
    · have := hS j hjS; omega
  refine rNil (rFA (rStore hb2 (by simp) ho2.one ?_))
  intro w3 hm3 hb3 _
  have ho13 := ho1'.mod hm3 (by simp) (by intro j hj hj'; simp at hj; subst hj; have := (hgo _ hj').1; omega)
  have ho23 := ho2.mod hm3 (by simp) (by intro j hj hj'; simp at hj; subst hj; have := hgv _ hj'; omega)
  refine rNil (rFA (rFA (rLoad (hb3.cell 0) (rSub (by omega) (by omega) (rNil (rFA (rFA (rStore hb3 (by simp) rfl ?_))))))))
  intro w4 hm4 hb4 _
  have ho14 := ho13.mod hm4 (by simp) (by intro j hj hj'; simp at hj; subst hj; have := (hgo _ hj').1; omega)
  have ho24 := ho23.mod hm4 (by simp) (by intro j hj hj'; simp at hj; subst hj; have := hgv _ hj'; omega)
  refine ⟨v2, k, by first | exact hk | rfl, ho14, ⟨?_, ho24.base (by omega), hq.low, hapart, h1, h16, by simp; omega⟩, ?_, fun j hj => Nat.le_trans hsz1 (hgv j hj), fun j hj hj' => ?_⟩
  · have : ((l.drop k).length : Int) = l.length - k := by simp; omega
    rw [this]; simpa using hb4
  · exact (hm1.nil.trans hm2.nil).trans (hm3.trans hm4)
  · have := (hgo j hj).2; have := hgv j hj'; omega

theorem s_New_trommellaw21_item (S : List Nat) (n : Int) (w : World) (hS : ∀ k ∈ S, k < w.heap.size) :
    Calls Try.prog i_queue_New_trommellaw21_item #[.int .i64 n] w (callR (fun r w' => r = .pointer (some ⟨w.heap.size, 0, none⟩) ∧ Mod [] w w' ∧ IsQ TyItem T_queue_Queue_trommellaw21_item T_trommellaw21_item w.heap.size w' S w.heap.size (.slice none 0 0) (min (max n 1) 16) []) noP) := by
  refine c_queue_New_trommellaw21_item ?_
  unfold n_queue_New_trommellaw21_item
  refine rMax (rMin (rBuild [.int .i64 0, .int .i64 (min (max n 1) 16)] rfl (rBuild [.int .i64 0, .int .i64 (min (max n 1) 16), .slice none 0 0] rfl (rBox [.int .i64 0, .int .i64 (min (max n 1) 16), .slice none 0 0] rfl ?_))))
  intro w' hm hb hs
  refine ⟨rfl, hm, hb, Own.nil _ _ _ _ _, Nat.le_refl _, by simp [ob, Value.ownBlock], by omega, by omega, by simp; omega⟩

theorem s_Put_trommellaw21_item (base : Nat) (S : List Nat) (g : Nat) (v x : Value) (most : Int) (l m : List ItemD) (w : World) (hq : IsQ TyItem T_queue_Queue_trommellaw21_item T_trommellaw21_item base w S g v most l) (hx : RSl TyItem (hide w (ob v ++ g :: S)) x m) (hS : ∀ k ∈ S, k < w.heap.size) (hbw : base ≤ w.heap.size) :
    Calls Try.prog i_queue_Queue_trommellaw21_item_Put #[.pointer (some ⟨g, 0, none⟩), x] w (callR (fun r w' => ∃ v' k, r = .int .i64 (k : Nat) ∧ (k : Int) = min (m.length : Int) (most - l.length) ∧ IsQ TyItem T_queue_Queue_trommellaw21_item T_trommellaw21_item base w' S g v' most (l ++ m.take k) ∧ Mod (g :: ob v) w w' ∧ (∀ j ∈ ob v', j ∈ ob v ∨ w.heap.size ≤ j)) noP) := by
  have h16 := hq.most2
  have h1 := hq.most1
  have hf := hq.fits
  obtain ⟨A, n, c, rfl, hn, hnc, hc, hn', _⟩ := id hx
  refine c_queue_Queue_trommellaw21_item_Put ?_
  unfold n_queue_Queue_trommellaw21_item_Put
  refine rLen (rNil (rFA ?_))
  have hR := s_Room g l.length most [v] T_queue_Queue_trommellaw21_item w hq.blk (by omega) hf h16
  refine rCall hR ?_
  clear hR
  rintro _ w1 ⟨rfl, hm1⟩
  refine rMin ?_
  obtain ⟨k, hk⟩ : ∃ k : Nat, (k : Int) = min (n : Int) (most - l.length) := ⟨(min (n : Int) (most - l.length)).toNat, by omega⟩
  rw [← hk]
  have hm1d : Mod [] w w1.drew := hm1.drew
  have hb1 := hq.blk.mod hm1d (by simp)
  have ho1 := hq.own.mod hm1d (by simp) (by simp)
  refine rD rfl (rNil (rFA (rLD (v := v) (hb1.cell 2) (rSL (l := 0) (m := k) (.inl ⟨rfl, rfl⟩) (.inr ⟨_, rfl⟩) (Nat.zero_le _) (by omega) ?_))))
  rw [slA_zero]
  have hx1 := ((hx.mono (hide_le hm1d (by simp))).take0 (m := k) (by omega))
  refine rAppend (T := TyItem) ho1 hx1 rfl (by rfl) (by decide) (by simp; omega) (by decide) (Nat.le_trans hbw hm1d.size) ?_
  intro v' w2 hown hm2 hle hob
  have hb2 := hb1.mod hm2 (fun h => hq.apart g h (List.mem_cons_self ..))
  have hgv' : ∀ j ∈ ob v', j ∉ g :: S := by
    intro j hj hjs
    rcases hob j hj with h | h
    · exact hq.apart j h hjs
    · have := hm1d.size
      rcases List.mem_cons.1 hjs with rfl | hjS
      · have := hq.blk.lt; omega
      · have := hS j hjS; omega
  refine rD rfl (rNil (rFA (rStore hb2 (by simp) hown.one ?_)))
  intro w3 hm3 hb3 _
  have hown3 := hown.mod hm3 (by simp) (by intro j hj hj'; simp at hj; subst hj; exact hgv' _ hj' (List.mem_cons_self ..))
  refine rNil (rFA (rFA (rLoad (v := .int .i64 l.length) (hb3.cell 0) (rAdd (by omega) (by omega) (rNil (rFA (rFA (rStore hb3 (by simp) rfl ?_))))))))
  intro w4 hm4 hb4 _
  have hown4 := hown3.mod hm4 (by simp) (by intro j hj hj'; simp at hj; subst hj; exact hgv' _ hj' (List.mem_cons_self ..))
  have hlen : (l ++ m.take k).length = l.length + k := by simp; omega
  refine ⟨v', k, rfl, by omega, ⟨?_, hown4, hq.low, hgv', h1, h16, by rw [hlen]; omega⟩, ?_, ?_⟩
  · rw [hlen]; simpa using hb4
  · exact (hm1d.mono (by simp)).trans (((hm2.mono (fun j hj => List.mem_cons_of_mem _ hj)).trans (hm3.mono (by simp))).trans (hm4.mono (by simp)))
  · intro j hj
    rcases hob j hj with h | h
    · exact .inl h
    · exact .inr (Nat.le_trans hm1d.size h)

theorem s_Take_trommellaw21_item (base : Nat) (S : List Nat) (g : Nat) (v : Value) (most : Int) (l : List ItemD) (n : Int) (w : World) (hq : IsQ TyItem T_queue_Queue_trommellaw21_item T_trommellaw21_item base w S g v most l) (hS : ∀ k ∈ S, k < w.heap.size) (hbw : base ≤ w.heap.size) :
    Calls Try.prog i_queue_Queue_trommellaw21_item_Take #[.pointer (some ⟨g, 0, none⟩), .int .i64 n] w (callR (fun r w' => ∃ v' k, (k : Nat) = min (max n 0) (l.length : Int) ∧ Own TyItem w.heap.size w' (g :: S) T_trommellaw21_item r (l.take k) ∧ IsQ TyItem T_queue_Queue_trommellaw21_item T_trommellaw21_item base w' S g v' most (l.drop k) ∧ Mod [g] w w' ∧ (∀ j ∈ ob v', w.heap.size ≤ j) ∧ (∀ j ∈ ob r, j ∉ ob v')) noP) := by
  have h16 := hq.most2
  have h1 := hq.most1
  have hf := hq.fits
  have hg := hq.blk.lt
  have hl : l.length ≤ 16 := by omega
  obtain ⟨A, c, rfl, hc, hc', _⟩ := hq.own.shape
  have hr := hq.own.read (fun k hk => hq.apart k hk) (by omega)
  refine c_queue_Queue_trommellaw21_item_Take ?_
  unfold n_queue_Queue_trommellaw21_item_Take
  refine rMax (rNil (rFA (rFA (rLoad (hq.blk.cell 0) (rMin ?_)))))
  obtain ⟨k, hk⟩ : ∃ k : Nat, (k : Int) = min (max n 0) (l.length : Int) := ⟨(min (max n 0) (l.length : Int)).toNat, by omega⟩
  rw [← hk]
  refine rNil (rFA (rLoad (hq.blk.cell 2) (rSL (l := 0) (m := k) (.inl ⟨rfl, rfl⟩) (.inr ⟨_, rfl⟩) (Nat.zero_le _) (by omega) ?_)))
  rw [slA_zero]
  have hC := s_Clone_trommellaw21_item (g :: S) _ _ w (hr.take0 (m := k) (by omega)) (by simp; omega)
  refine rCall hC ?_
  clear hC
  rintro out w1 ⟨hm1, ho1⟩
  have hb1 := hq.blk.mod hm1 (by simp)
  have hr1 := hr.mono (hide_le hm1 (by simp))
  refine rNil (rFA (rLoad (hb1.cell 2) (rSL (l := k) (m := l.length) (.inr ⟨_, rfl⟩) (.inl ⟨rfl, rfl⟩) (by omega) (by omega) ?_)))
  have hC := s_Clone_trommellaw21_item (g :: S) _ _ w1 (hr1.cut (lo := k) (m := l.length) (by omega) (Nat.le_refl _)) (by simp; omega)
  refine rCall hC ?_
  clear hC
  rintro v2 w2 ⟨hm2, ho2⟩
  have e : (l.drop k).take (l.length - k) = l.drop k := List.take_of_length_le (by simp)
  rw [e] at ho2
  have hb2 := hb1.mod hm2 (by simp)
  have ho1' := ho1.mod hm2 (by simp) (by simp)
  have hsz1 := hm1.size
  have hgo : ∀ j ∈ ob out, w.heap.size ≤ j ∧ j < w1.heap.size := ho1.block
  have hgv : ∀ j ∈ ob v2, w1.heap.size ≤ j := fun j hj => (ho2.block j hj).1
  have hapart : ∀ j ∈ ob v2, j ∉ g :: S := by
    intro j hj hjs
    have := hgv j hj
    rcases List.mem_cons.1 hjs with rfl | hjS
    · omega
    · have := hS j hjS; omega
  refine rNil (rFA (rStore hb2 (by simp) ho2.one ?_))
  intro w3 hm3 hb3 _
  have ho13 := ho1'.mod hm3 (by simp) (by intro j hj hj'; simp at hj; subst hj; have := (hgo _ hj').1; omega)
  have ho23 := ho2.mod hm3 (by simp) (by intro j hj hj'; simp at hj; subst hj; have := hgv _ hj'; omega)
  refine rNil (rFA (rFA (rLoad (hb3.cell 0) (rSub (by omega) (by omega) (rNil (rFA (rFA (rStore hb3 (by simp) rfl ?_))))))))
  intro w4 hm4 hb4 _
  have ho14 := ho13.mod hm4 (by simp) (by intro j hj hj'; simp at hj; subst hj; have := (hgo _ hj').1; omega)
  have ho24 := ho23.mod hm4 (by simp) (by intro j hj hj'; simp at hj; subst hj; have := hgv _ hj'; omega)
  refine ⟨v2, k, by first | exact hk | rfl, ho14, ⟨?_, ho24.base (by omega), hq.low, hapart, h1, h16, by simp; omega⟩, ?_, fun j hj => Nat.le_trans hsz1 (hgv j hj), fun j hj hj' => ?_⟩
  · have : ((l.drop k).length : Int) = l.length - k := by simp; omega
    rw [this]; simpa using hb4
  · exact (hm1.nil.trans hm2.nil).trans (hm3.trans hm4)
  · have := (hgo j hj).2; have := hgv j hj'; omega

end Go.Proofs.Ytahipnlffgbjgaa
