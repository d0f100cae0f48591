/- Lib 16: slices made, cut, written in place. -/
import Derived.Test.YtlbihkgfejgefaaDoorL15
import Derived.Laws.MakeOwn
namespace Go.Proofs.YtlbihkgfejgefaaDoor.L
open Go Go.RowKit
set_option linter.unusedVariables false

section
variable {P : Program} {Kp : PK} {K : VK} {c : World} {I : CM} {F : Hp} {As : List HP} {w : World}

theorem St.allocArr (hs : St c I F As w) {w' : World} {cur : Array Value} {E g : Nat} (hg : g = w.heap.size) (hm : Mod [] w w') (hb : w'.heap[g]? = some (.cells cur E (0, 0))) : St c I F (Cells g cur.toList E :: As) w' := by
  subst hg
  exact hs.alloc hm (by unfold Blk; rw [Array.toArray_toList]; exact hb)

/-- make([]T, 0, n) -/
theorem rMkS {α : Type} (T : Ty α) {t e sz by_ : Nat} [h : SliceT P t e sz by_] {z : Value} [hz : ZeroT P e z] {kl kc : IntKind} {n : Int} (hs : St c I F As w) (hT : T.n = sz) (h0 : 0 ≤ n) (hbytes : by_ * n.toNat ≤ 281474976710656) (hm : n ≤ 9223372036854775807)
    (hk : ∀ v w', St c I F (OwnSl T e v [] :: As) w' → K v w') : oMS P t (.int kl 0) (.int kc n) Kp w K := by
  obtain ⟨hu, i, hi, hsi, hbi⟩ := sliceInfo_spec h.h
  have hiz : i.zero = some z := by have := hz.h; unfold zeroOf at this; rw [hi] at this; simpa using this
  obtain ⟨k, rfl⟩ : ∃ k : Nat, n = k := ⟨n.toNat, by omega⟩
  obtain ⟨w', hr, hown, hg⟩ := run_make_own (P := P) w 0 t e i z sz hu hi hiz hsi kl kc k (by rw [hbi]; simpa using hbytes) (by simp only [maxLen]; omega) (Nat.zero_le _)
  unfold oMS
  simp only [NV, Sem.run_bind, hr, Result.andThen_ok, Sem.run_pure]
  refine hk _ w' ?_
  have hmod : Mod [] w w' := Mod.grown hg (fun k hk => by cases hk)
  rcases hown.2 with ⟨h1, _⟩ | ⟨g, cap, cur, he, _, hgg, hc, hcm, hcs, ht⟩
  · cases h1
  · cases he
    have h1 := hs.allocArr rfl hmod hgg
    refine h1.wk fun I h hh => ⟨[], rfl, fun i hi => by simp at hi, .inr ⟨w.heap.size, k, cur, rfl, ?_, Nat.zero_le _, hcm, by rw [hcs, hT], by simp⟩⟩
    have := hh
    simp only [Cells, Array.toArray_toList] at this
    exact this

theorem St.slTake {α : Type} {T : Ty α} {E : Nat} {A : Option Addr} {n cp : Nat} {l : List α} (hs : St c I F (OwnSl T E (.slice A n cp) l :: As) w) (k : Nat) (hk : k ≤ l.length) : St c I F (OwnSl T E (.slice A k cp) (l.take k) :: As) w := by
  refine hs.wk fun I h hp => ?_
  obtain ⟨us, h1, h2, h3⟩ := hp
  refine ⟨us.take k, by simp [h1], fun i hi hi' => ?_, ?_⟩
  · simp at hi hi'
    simpa using h2 i (by omega) (by omega)
  · rcases h3 with ⟨he, rfl, hn⟩ | ⟨g, cap, cur, he, hh, hc, hcm, hcs, ht⟩
    · cases he
      have : k = 0 := by simpa using hk
      subst this
      exact .inl ⟨rfl, rfl, hn⟩
    · cases he
      have hsz : ∀ k (h : k < us.length), us[k].length = T.n := fun k h => T.len (h2 k (by omega) h)
      refine .inr ⟨g, cp, cur, by simp [Nat.min_eq_left hk], hh, by simp; omega, hcm, hcs, ?_⟩
      have e1 : (l.take k).length = k := by simp; omega
      rw [e1]
      have e2 : us.flatten = (us.take k).flatten ++ (us.drop k).flatten := by rw [← List.flatten_append, List.take_append_drop]
      have e3 : (us.take k).flatten.length = k * T.n := by
        have := flatten_len (T := T) (I := I) (us := us.take k) (l := l.take k) (by simp [h1]) (fun i hi hi' => by simp at hi hi'; simpa using h2 i (by omega) (by omega))
        rw [this, e1]
      have e4 : cur.toList.take (k * T.n) = (cur.toList.take (l.length * T.n)).take (k * T.n) := by
        rw [List.take_take, Nat.min_eq_left (Nat.mul_le_mul_right _ hk)]
      rw [e4, ht, e2, List.take_left' e3]

theorem St.slAddr {α : Type} {T : Ty α} {E : Nat} {A : Option Addr} {n cp : Nat} {l : List α} (hs : St c I F (OwnSl T E (.slice A n cp) l :: As) w) (hl : l ≠ []) : ∃ g, A = some ⟨g, 0, none⟩ ∧ n = l.length ∧ l.length ≤ cp := by
  obtain ⟨hA, ⟨us, h1, h2, h3⟩, _⟩ := hs.upd
  rcases h3 with ⟨he, rfl, hn⟩ | ⟨g, cap, cur, he, hh, hc, hcm, hcs, ht⟩
  · exact absurd rfl hl
  · cases he; exact ⟨g, rfl, rfl, hc⟩

/-- an element written in place -/
theorem rStSl {α : Type} {T : Ty α} {t E g n cp o : Nat} [h : Scalar P t] {l : List α} {u : Value} {x : α} (hs : St c I F (OwnSl T E (.slice (some ⟨g, 0, none⟩) n cp) l :: As) w) (i : Nat) (hi : i < l.length) (ho : o = i) (hT : T.n = 1) (hx : T.rep I [u] x)
    (hk : ∀ w', St c I F (OwnSl T E (.slice (some ⟨g, 0, none⟩) n cp) (l.set i x) :: As) w' → K undef w') : oStore P t (.pointer (some ⟨g, o, none⟩)) u Kp w K := by
  subst ho
  obtain ⟨hA, ⟨us, h1, h2, h3⟩, hin, _, upd⟩ := hs.upd
  rcases h3 with ⟨he, _⟩ | ⟨g', cap, cur, he, hh, hc, hcm, hcs, ht⟩
  · cases he
  cases he
  subst hh
  have hb : Blk w g cur.toList E := by unfold Blk; rw [Array.toArray_toList]; exact Hp.one_isIn.1 hin
  rw [hT, Nat.mul_one] at hcs ht
  refine rStore hb (by rw [Array.length_toList]; omega) (T.one hx u (by simp)) fun w' hm hb' _ => hk w' ?_
  have hu1 : ∀ k (h : k < us.length), us[k].length = 1 := fun k h => by rw [← hT]; exact T.len (h2 k (by omega) h)
  refine upd _ w' [g] (Hp.one g (.cells (cur.toList.set o u).toArray E (0, 0))) hm (by intro b hb; simp at hb; subst hb; rw [Hp.one_self]; simp) (Hp.one_isIn.2 hb') (fun b hb => .inl (Hp.one_ne.2 (Hp.one_ne.1 hb)))
    ⟨us.set o [u], by simp [h1], fun k hk hk' => ?_, .inr ⟨g, cp, (cur.toList.set o u).toArray, by simp, rfl, by simpa using hc, hcm, by simp [hT, hcs], ?_⟩⟩
  · by_cases hok : o = k
    · subst hok; simpa using hx
    · simp only [List.getElem_set_ne hok]; exact h2 k (by simpa using hk) (by simpa using hk')
  · have key : ∀ (us : List (List Value)) (o : Nat), (∀ k (h : k < us.length), us[k].length = 1) → (us.set o [u]).flatten = us.flatten.set o u := by
      intro us
      induction us with
      | nil => intro o _; simp
      | cons a us ih =>
        intro o hu
        have h0 : a.length = 1 := hu 0 (by simp)
        obtain ⟨y, rfl⟩ : ∃ y, a = [y] := by
          cases a with
          | nil => simp at h0
          | cons y a => cases a with
            | nil => exact ⟨y, rfl⟩
            | cons z a => simp at h0
        cases o with
        | zero => simp
        | succ o => simp only [List.set_cons_succ, List.flatten_cons, List.cons_append, List.nil_append]; rw [ih o (fun k h => by have := hu (k + 1) (by simpa using h); simpa using this)]
    rw [key us o hu1, hT, Nat.mul_one, List.length_set]
    simp only [List.toList_toArray, List.take_set]
    rw [ht]

/-- an owned slice with known things in its spare room -/
def OwnSp {α : Type} (T : Ty α) (E : Nat) (v : Value) (l m : List α) : HP :=
  HP.ex fun (x : Option Addr × Nat) => HP.sep (OwnSl T E (.slice x.1 (l ++ m).length x.2) (l ++ m)) (HP.pur (v = .slice x.1 l.length x.2))
theorem OwnSp.open {α : Type} {T : Ty α} {E : Nat} {v : Value} {l m : List α} (hs : St c I F (OwnSp T E v l m :: As) w) : ∃ A cp, v = .slice A l.length cp ∧ St c I F (OwnSl T E (.slice A (l ++ m).length cp) (l ++ m) :: As) w := by
  obtain ⟨⟨A, cp⟩, hs⟩ := hs.ex
  obtain ⟨h, hs⟩ := hs.sep.p1.pur
  exact ⟨A, cp, h, hs⟩
theorem OwnSp.shut {α : Type} {T : Ty α} {E : Nat} {A : Option Addr} {cp n : Nat} {l m : List α} (hn : n = (l ++ m).length) (hs : St c I F (OwnSl T E (.slice A n cp) (l ++ m) :: As) w) : St c I F (OwnSp T E (.slice A l.length cp) l m :: As) w := by
  subst hn
  exact St.toEx (A, cp) (St.join (St.p1 (St.toPur rfl hs)))
theorem OwnSp.sl {α : Type} {T : Ty α} {E : Nat} {v : Value} {l m : List α} (hs : St c I F (OwnSp T E v l m :: As) w) : St c I F (OwnSl T E v l :: As) w := by
  obtain ⟨A, cp, rfl, h1⟩ := OwnSp.open hs
  have := h1.slTake l.length (by simp)
  simpa using this
end
end Go.Proofs.YtlbihkgfejgefaaDoor.L
