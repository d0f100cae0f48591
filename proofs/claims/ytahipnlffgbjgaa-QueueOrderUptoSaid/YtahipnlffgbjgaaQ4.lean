/- QueueOrder. -/
import Derived.Test.YtahipnlffgbjgaaQ3
import Derived.Test.YtahipnlffgbjgaaR0
namespace Go.Proofs.Ytahipnlffgbjgaa
open Go L
set_option linter.unusedVariables false

structure QO (w0 : World) (g : Nat) (most : Int) (w : World) (vin vout v : Value) (inn out ql : List Int) : Prop where
  mod : Mod [] w0 w
  q : IsQ Ty.int T_queue_Queue_int T_int w0.heap.size w [] g v most ql
  hin : Own Ty.int w0.heap.size w [] T_int vin inn
  hout : Own Ty.int w0.heap.size w [] T_int vout out
  eq : inn = out ++ ql
  d1 : g ∉ ob vin
  d2 : g ∉ ob vout
  d3 : ∀ k ∈ ob v, k ∉ ob vin
  d4 : ∀ k ∈ ob v, k ∉ ob vout
  d5 : ∀ k ∈ ob vin, k ∉ ob vout

theorem QO.still {w0 : World} {g : Nat} {most : Int} {w w' : World} {vin vout v : Value} {inn out ql : List Int} (h : QO w0 g most w vin vout v inn out ql) (hm : Mod [] w w') : QO w0 g most w' vin vout v inn out ql :=
  ⟨h.mod.trans hm, h.q.modF flat_int hm (by simp) (by simp), h.hin.modF flat_int hm (by simp), h.hout.modF flat_int hm (by simp), h.eq, h.d1, h.d2, h.d3, h.d4, h.d5⟩

set_option maxHeartbeats 4000000 in
theorem law_QueueOrder (room : Int) (p1 : Value) (puts : List (List Int)) (p2 : Value) (takes : List Int) (w : World) (h0 : -9223372036854775808 ≤ room ∧ room ≤ 9223372036854775807)
    (h1 : RSl (Ty.slice Ty.int) (hide w []) p1 puts) (h2 : RSl Ty.int (hide w []) p2 takes) (hb : (bulkL (fun l => bulkL (fun _ => 1) l + 1) puts + 1) ≤ 1048576) :
    Calls Try.prog i_trommellaw21_QueueOrder #[.int .i64 room, p1, p2] w (callR (fun r w' => r = .bool true ∧ Mod [] w w') noP) := by
  replace hb : puts.length ≤ 1048576 := by have := bulkL_len (fun l => bulkL (fun _ => 1) l + 1) (fun _ => by omega) puts; omega
  obtain ⟨A, n, c, rfl, hn, hc, hc', hn', hh⟩ := id h1
  obtain ⟨A2, n2, c2, rfl, hn2, hc2, hc2', hn2', hh2⟩ := id h2
  refine c_trommellaw21_QueueOrder ?_
  unfold n_trommellaw21_QueueOrder
  have hC := s_fixed w
  refine rCall hC ?_; clear hC
  rintro _ w1 ⟨rfl, hm1⟩
  refine rNot (rFalse ?_)
  have hC := s_New_int [] room w1 (by simp)
  refine rCall hC ?_; clear hC
  rintro _ w2 ⟨rfl, hm2, hq2⟩
  refine rEqlPN (rFalse (rNil (rFA ?_)))
  obtain ⟨most, hmost⟩ : ∃ m, m = min (max room 1) 16 := ⟨_, rfl⟩
  rw [← hmost] at hq2
  have hC := s_Room w1.heap.size 0 most [.slice none 0 0] _ w2 hq2.blk (by omega) (by omega) (by omega)
  refine rCall hC ?_; clear hC
  rintro _ w3 ⟨rfl, hm3⟩
  refine rLen ?_
  rw [Int.sub_zero]
  have hI : QO w w1.heap.size most w3 (.slice none 0 0) (.slice none 0 0) (.slice none 0 0) [] [] [] := by
    have hs := hm1.size
    exact ⟨(hm1.trans hm2).trans hm3, ⟨(hq2.modF flat_int hm3 (by simp) (by simp)).blk, Own.nil _ _ _ _ _, hs, by simp [ob, Value.ownBlock], by omega, by omega, by simp; omega⟩, Own.nil _ _ _ _ _, Own.nil _ _ _ _ _, rfl,
      by simp [ob, Value.ownBlock], by simp [ob, Value.ownBlock], by simp [ob, Value.ownBlock], by simp [ob, Value.ownBlock], by simp [ob, Value.ownBlock]⟩
  have hg := hm1.size
  obtain ⟨g, hgg⟩ : ∃ g, g = w1.heap.size := ⟨_, rfl⟩
  rw [← hgg] at hI hg ⊢
  refine rLoop3 (fun x y z w' => ∃ (i : Nat) (v : Value) (inn out ql : List Int), z = .int .i64 i ∧ i ≤ n ∧ inn.length ≤ 16 * i ∧ QO w g most w' x y v inn out ql)
    (fun _ _ z _ => match z with | .int _ k => n - k.toNat | _ => 0) ⟨0, _, [], [], [], rfl, Nat.zero_le _, by simp, hI⟩ ?_
  clear hq2 hm2 hm3 hm1 hI hgg w1 w2 w3
  rintro f w4 ag hag ⟨i, v, inn, out, ql, hi, hin, hlen, hI⟩
  generalize f 9 = vi at hI ⊢
  generalize f 10 = y at hI ⊢
  simp only [hi] at hag ⊢
  have hmost1 := hI.q.most1
  have hmost2 := hI.q.most2
  have hfit := hI.q.fits
  refine rLss (rCond (fun hlt => ?_) fun hge => ?_)
  · obtain ⟨b, o, rfl, hh'⟩ := hh (by omega)
    obtain ⟨us, hu, x, rfl, hx⟩ := hh' i (by omega)
    have hcell := hide_cell (hide_le hI.mod (by simp) _ _ _ (hu 0 (by simp)))
    refine rIA (by omega) (by omega) (rLoad (by simpa using hcell) ?_)
    have hgs : g < w4.heap.size := hI.q.blk.lt
    have hvb := hI.q.block
    have hib := hI.hin.block
    have hob := hI.hout.block
    have ha := hI.q.apart
    have d1 := hI.d1; have d2 := hI.d2; have d3 := hI.d3; have d4 := hI.d4; have d5 := hI.d5
    have hsz := hI.mod.size
    have hC := s_Put_int w.heap.size [] g v x most ql puts[i] w4 hI.q (hx.mono (hide_le_new hI.mod (by simp) (by intro k hk; right; simp at hk; rcases hk with hk | rfl; exact (hvb k hk).1; exact hg))) (by simp) hsz
    refine rCall hC ?_; clear hC
    rintro _ w5 ⟨v', k, rfl, hk, hq5, hm5, hv5⟩
    have hi5 := hI.hin.modF (S' := []) flat_int hm5 (by grind)
    have ho5 := hI.hout.modF (S' := []) flat_int hm5 (by grind)
    have hmod5 : Mod [] w w5 := hI.mod.trans_new hm5 (by grind)
    have hvb5 := hq5.block
    have hsz5 := hm5.size
    obtain ⟨A3, c3, rfl, hc3, hc3', _⟩ : ∃ A c, x = .slice A puts[i].length c ∧ puts[i].length ≤ c ∧ c ≤ 9223372036854775807 ∧ True := by
      obtain ⟨A, n, c, rfl, rfl, h1, h2, _⟩ := id hx; exact ⟨A, c, rfl, h1, h2, trivial⟩
    have hkl : k ≤ puts[i].length := by omega
    refine rLss ?_
    rw [decide_eq_false (by omega)]
    refine rG1 (rG1 (rG1 (rLen (rG1 (rGtr ?_)))))
    rw [decide_eq_false (by omega)]
    refine rPickF (rG1 (rG1 (rG1 (rLen (rG1 (rLss (rG1 ?_)))))))
    -- n < len(l) just where the room is full
    apply join (J := fun w6 => Mod [] w5 w6)
    · intro hj
      by_cases hkl2 : k < puts[i].length
      · rw [decide_eq_true (by omega : (k : Int) < (puts[i].length : Int))]
        refine rG1 (rG1 (rNil (rG1 (rFA (rG1 ?_)))))
        have hC := s_Room g (ql ++ puts[i].take k).length most [v'] _ w5 hq5.blk (by omega) hq5.fits hmost2
        refine rCall hC ?_; clear hC
        rintro _ w6 ⟨rfl, hm6⟩
        refine rG1 (rNeqF (by simp; omega) (rG1 (rPickT (rPickF (rFalse ?_)))))
        exact hj w6 hm6
      · rw [decide_eq_false (by omega)]
        refine rG0 (rG0 (rG0 (rG0 (rG0 (rG1 (rPickF (rPickF (rFalse ?_))))))))
        exact hj w5 (Mod.refl _ _)
    intro w6 hm6
    have hq6 := hq5.modF flat_int hm6 (by simp) (by simp)
    have hi6 := hi5.modF (S' := []) flat_int hm6 (by simp)
    have ho6 := ho5.modF (S' := []) flat_int hm6 (by simp)
    have hmod6 := hmod5.trans hm6
    have hsz6 := hm6.size
    refine rSL (l := 0) (m := k) (.inl ⟨rfl, rfl⟩) (.inr ⟨_, rfl⟩) (Nat.zero_le _) (by omega) ?_
    rw [slA_zero]
    refine rAppend (T := Ty.int) hi6 ((hx.mono (hide_le_new hmod6 (by simp) (by intro k hk; right; simp at hk; exact (hib k hk).1))).take0 hkl) rfl (by rfl) (by decide) (by simp; omega) (by decide) (by omega) ?_
    intro vin' w7 hi7 hm7 hle7 hnew7
    have hq7 := hq6.modF flat_int hm7 hI.d1 (by grind)
    have ho7 := ho6.modF (S' := []) flat_int hm7 (by grind)
    have hmod7 : Mod [] w w7 := hmod6.trans_new hm7 (by grind)
    have hsz7 := hm7.size
    have hib7 := hi7.block
    have hll : (inn ++ puts[i].take k).length ≤ 16 * (i + 1) := by simp; omega
    have hI7 : QO w g most w7 vin' y v' (inn ++ puts[i].take k) out (ql ++ puts[i].take k) :=
      ⟨hmod7, hq7, hi7, ho7, by rw [hI.eq, List.append_assoc], by grind, d2, by grind, by grind, by grind⟩
    refine ⟨fun l w8 => ∃ v8 out8 ql8, QO w g most w8 vin' (l.getD 0 undef) v8 (inn ++ puts[i].take k) out8 ql8, ?_, fun f2 w8 h8 => ?_⟩
    · refine rLen (rLss (rCond (fun hlt2 => ?_) fun hge2 => ?_))
      · obtain ⟨b2, o2, rfl, hh2'⟩ := hh2 (by omega)
        obtain ⟨us2, hu2, rfl, _⟩ := hh2' i (by omega)
        have hcell2 := hide_cell (hide_le hmod7 (by simp) _ _ _ (hu2 0 (by simp)))
        refine rIA (by omega) (by omega) (rLoad (by simpa using hcell2) ?_)
        have hC := s_Take_int w.heap.size [] g v' most (ql ++ puts[i].take k) takes[i] w7 hq7 (by simp) hmod7.size
        refine rCall hC ?_; clear hC
        rintro r w8 ⟨v8, k8, hk8, hr8, hq8, hm8, hob8, hd8⟩
        have hi8 := hi7.modF (S' := []) flat_int hm8 (by have := hI7.d1; simpa using this)
        have ho8 := ho7.modF (S' := []) flat_int hm8 (by have := hI7.d2; simpa using this)
        have hrb := hr8.block
        have hob7 := ho7.block
        have hvb8 := hq8.block
        have hgs7 := hq7.blk.lt
        have hle8 : ((ql ++ puts[i].take k).take k8).length ≤ 16 := by simp; omega
        obtain ⟨A8, c8, rfl, hc8, hc8', _⟩ := hr8.shape
        have hrr := (hr8.modF (S' := ob y ++ []) flat_int (Mod.refl [] _) (by simp)).read (by simp; grind) (by omega)
        refine rAppend (T := Ty.int) ho8 hrr rfl (by rfl) (by decide) (by have := congrArg List.length hI.eq; simp at this; simp; omega) (by decide) (Nat.le_trans hmod7.size hm8.size) ?_
        intro vout' w9 ho9 hm9 hle9 hnew9
        have hq9 := hq8.modF flat_int hm9 (by have := hI7.d2; simpa using this) (by grind)
        have hi9 := hi8.modF (S' := []) flat_int hm9 (by have := hI7.d5; grind)
        have hsz8 := hm8.size
        have hob9 := ho9.block
        have d1' := hI7.d1; have d2' := hI7.d2; have d5' := hI7.d5
        refine ⟨v8, _, _, (hmod7.trans_new hm8 (by grind)).trans_new hm9 (by grind), hq9, hi9, ho9, ?_, d1', by grind, by grind, by grind, by grind⟩
        rw [hI7.eq, List.append_assoc, List.take_append_drop]
      · exact ⟨v', _, _, hI7⟩
    generalize inn ++ puts[i].take k = inn8 at hI7 h8 hll
    generalize hy8 : f2 10 = y8
    obtain ⟨v8, out8, ql8, h8⟩ := h8
    simp only [List.map_cons, List.map_nil, List.getD_cons_zero, hy8] at h8
    clear hI7 hi7 hq7 ho7 hm7 hle7 hnew7 hmod7 hsz7 hib7 hsz6 hmod6 ho6 hi6 hq6 hm6 hsz5 hvb5 hmod5 ho5 hi5 hm5 hv5 hq5 hI hvb hib hob d1 d2 d3 d4 d5 ha
    have hfit8 := h8.q.fits
    refine rD rfl (rNil (rFA ?_))
    have h8d := h8.still (Mod.refl [] _).drew
    have hC := s_Len g ql8.length [.int .i64 most, v8] _ w8.drew h8d.q.blk
    refine rCall hC ?_; clear hC
    rintro _ w9 ⟨rfl, hm9⟩
    have h9 := h8d.still hm9
    refine rD rfl (rNil (rFA ?_))
    have hC := s_Room g ql8.length most [v8] _ w9 h9.q.blk (by omega) hfit8 hmost2
    refine rCall hC ?_; clear hC
    rintro _ w10 ⟨rfl, hm10⟩
    have h10 := h9.still hm10
    refine rD rfl (rAdd (by omega) (by omega) (rD rfl (rNeqF (by omega) ?_)))
    refine rG1 (rG1 (rD rfl (rNil (rG1 (rFA (rG1 ?_))))))
    have hC := s_Len g ql8.length [.int .i64 most, v8] _ w10 h10.q.blk
    refine rCall hC ?_; clear hC
    rintro _ w11 ⟨rfl, hm11⟩
    have h11 := h10.still hm11
    obtain ⟨A9, c9, he9, hc9, hc9', _⟩ := h11.hin.shape
    obtain ⟨A10, c10, he10, hc10, hc10', _⟩ := h11.hout.shape
    have heq := congrArg List.length h11.eq
    simp only [List.length_append] at heq
    refine rG1 (rG1 ?_)
    rw [he9]
    refine rD rfl (rLen (rG1 (rG1 ?_)))
    rw [he10]
    refine rD rfl (rLen (rG1 (rD rfl (rSub (by omega) (by omega) (rG1 (rD rfl (rNeqF (by omega) (rPickF (rFalse (rAdd (by omega) (by omega) ?_))))))))))
    refine hag _ _ _ _ ⟨i + 1, v8, inn8, out8, ql8, by simp, by omega, hll, ?_⟩ (by dsimp only; omega)
    rw [← he9, ← he10]; exact h11
  · have : i = n := by omega
    have hC := s_Take_int w.heap.size [] g v most ql most w4 hI.q (by simp) hI.mod.size
    have hgs : g < w4.heap.size := hI.q.blk.lt
    have hvb := hI.q.block
    have hib := hI.hin.block
    have hob := hI.hout.block
    have ha := hI.q.apart
    have d1 := hI.d1; have d2 := hI.d2; have d3 := hI.d3; have d4 := hI.d4; have d5 := hI.d5
    have hsz := hI.mod.size
    refine rCall hC ?_; clear hC
    rintro r w5 ⟨v8, k8, hk8, hr8, hq8, hm8, hob8, hd8⟩
    obtain rfl : k8 = ql.length := by omega
    rw [List.take_length] at hr8
    rw [List.drop_length] at hq8
    have hi8 := hI.hin.modF (S' := []) flat_int hm8 (by simpa using d1)
    have ho8 := hI.hout.modF (S' := []) flat_int hm8 (by simpa using d2)
    have hrb := hr8.block
    have hvb8 := hq8.block
    have hsz8 := hm8.size
    obtain ⟨A8, c8, rfl, hc8, hc8', _⟩ := hr8.shape
    have hrr := (hr8.modF (S' := ob y ++ []) flat_int (Mod.refl [] _) (by simp)).read (by simp; grind) (by omega)
    refine rAppend (T := Ty.int) ho8 hrr rfl (by rfl) (by decide) (by have := congrArg List.length hI.eq; simp at this; simp; omega) (by decide) (Nat.le_trans hI.mod.size hm8.size) ?_
    intro vout' w9 ho9 hm9 hle9 hnew9
    have hq9 := hq8.modF flat_int hm9 (by simpa using d2) (by grind)
    have hi9 := hi8.modF (S' := []) flat_int hm9 (by grind)
    have hmod9 : Mod [] w w9 := (hI.mod.trans_new hm8 (by grind)).trans_new hm9 (by grind)
    have hC := s_SameInts [] vi vout' inn (out ++ ql) w9 (hi9.read (by simp) (by omega)) (ho9.read (by simp) (by have := congrArg List.length hI.eq; omega))
    refine rCall hC ?_; clear hC
    rintro _ w10 ⟨rfl, hs10⟩
    have hm10 : Mod [] w9 w10 := .of_same hs10
    rw [decide_eq_true hI.eq]
    refine rG1 (rG1 (rNil (rG1 (rFA (rG1 ?_)))))
    have hq10 := hq9.modF flat_int hm10 (by simp) (by simp)
    have hC := s_Len g 0 [.int .i64 most, v8] _ w10 hq10.blk
    refine rCall hC ?_; clear hC
    rintro _ w11 ⟨rfl, hm11⟩
    refine rG1 (rEqlT rfl (rPickT (rG1 (rG1 (rGeq ?_)))))
    rw [decide_eq_true (by omega)]
    refine rPickT (rG1 (rG1 (rLeq ?_)))
    rw [decide_eq_true (by omega)]
    refine rPickT ⟨rfl, (hmod9.trans hm10).trans hm11⟩

end Go.Proofs.Ytahipnlffgbjgaa
