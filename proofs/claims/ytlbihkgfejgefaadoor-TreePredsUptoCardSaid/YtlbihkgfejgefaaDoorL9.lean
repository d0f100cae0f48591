/- Lib 9: slices: cutting, appending to a slice of one's own. -/
import Derived.Test.YtlbihkgfejgefaaDoorL8
import Derived.Laws.AppendOwn
namespace Go.Proofs.YtlbihkgfejgefaaDoor.L
open Go Go.RowKit
set_option linter.unusedVariables false
set_option linter.unusedSimpArgs false

section rules
variable {P : Program} {Kp : PK} {w : World} {K : VK}

/-- the address of x[l:] -/
def slA (A : Option Addr) (c l sz : Nat) : Option Addr := if c = l then A else A.map (·.add (l * sz))

theorem slA_zero (A : Option Addr) (c sz : Nat) : slA A c 0 sz = A := by
  unfold slA; split
  · rfl
  · cases A <;> simp [Addr.add]

theorem run_bound {v : Value} {y k : Nat} {cd : BoundsCode} {kd : IntKind} {i : Int} (hv : v = .int kd i) (h0 : i = (k : Int)) (h1 : k ≤ y) : (Instr.sliceBound v y cd).run P w = .ok k w := by
  subst hv; subst h0
  have hle : (0 : Int) ≤ (k : Int) ∧ (k : Int) ≤ (y : Int) := ⟨by omega, by omega⟩
  unfold Instr.sliceBound
  simp only [asIntOf, Sem.run_bind, Sem.run_pure, Result.andThen_ok, hle, and_self, if_true, Int.toNat_natCast]

/-- x[lo:hi], x[:hi], x[lo:], x[:] of a slice -/
theorem rSL {t e sz by_ : Nat} [h : SliceT P t e sz by_] {A : Option Addr} {n c l m : Nat} {lo hi : Option Value} (hl : (lo = none ∧ l = 0) ∨ ∃ kd, lo = some (.int kd l)) (hm : (hi = none ∧ m = n) ∨ ∃ kd, hi = some (.int kd m))
    (h1 : l ≤ m) (h2 : m ≤ c) (hk : K (.slice (slA A c l sz) (m - l) (c - l)) w) : oSL P t (.slice A n c) lo hi none Kp w K := by
  obtain ⟨hu, i, hi', hs, _⟩ := sliceInfo_spec h.h
  unfold oSL
  simp only [NV, Instr.sliceAt, Instr.slice, Sem.run_bind, run_und hu, Result.andThen_ok]
  have hb : (Instr.sliceBounds true n c lo hi none).run P w = .ok (l, m, c) w := by
    unfold Instr.sliceBounds
    rcases hl with ⟨rfl, rfl⟩ | ⟨kd, rfl⟩ <;> rcases hm with ⟨rfl, rfl⟩ | ⟨kd', rfl⟩
    · rfl
    · simp only [Sem.run_bind, Sem.run_pure, Result.andThen_ok, run_bound rfl rfl h2]
    · simp only [Sem.run_bind, Sem.run_pure, Result.andThen_ok, run_bound rfl rfl h1]
    · simp only [Sem.run_bind, Sem.run_pure, Result.andThen_ok, run_bound rfl rfl h1, run_bound rfl rfl h2]
  simp only [hb, Result.andThen_ok, run_size hi', hs, Sem.run_pure]
  exact hk

theorem RSl.cut {α : Type} {T : Ty α} {I : CM} {A : Option Addr} {n c : Nat} {l : List α} (h : RSl T I (.slice A n c) l) {lo m : Nat} (h1 : lo ≤ m) (h2 : m ≤ l.length) :
    RSl T I (.slice (slA A c lo T.n) (m - lo) (c - lo)) ((l.drop lo).take (m - lo)) := by
  obtain ⟨A', n', c', he, hn, hc, hc', hc2, h⟩ := h
  cases he
  refine ⟨_, _, _, rfl, by simp; omega, by omega, by omega, by omega, fun h0 => ?_⟩
  obtain ⟨b, o, rfl, hh⟩ := h (by omega)
  refine ⟨b, o + lo * T.n, ?_, fun i hi => ?_⟩
  · unfold slA; rw [if_neg (by omega)]; simp [add_ad]
  · have hi' : i < m - lo := by simp at hi; omega
    obtain ⟨us, hu, hr⟩ := hh (lo + i) (by omega)
    refine ⟨us, fun j hj => ?_, ?_⟩
    · rw [← hu j hj, Nat.add_mul]; congr 1; omega
    · simpa using hr

theorem RSl.take0 {α : Type} {T : Ty α} {I : CM} {A : Option Addr} {n c : Nat} {l : List α} (h : RSl T I (.slice A n c) l) {m : Nat} (h2 : m ≤ l.length) : RSl T I (.slice A m c) (l.take m) := by
  have := h.cut (Nat.zero_le m) h2
  rw [slA_zero] at this; simpa using this

/-- a block known whole, as a slice -/
theorem RSl.of_blk {α : Type} {T : Ty α} {S : List Nat} {g : Nat} {cs : List Value} {E : Nat} (hb : Blk w g cs E) (hg : g ∉ S) {l : List α} (us : List (List Value)) (hcs : cs = us.flatten) (hl : us.length = l.length) (hlen : l.length ≤ 140737488355328)
    (hr : ∀ i (h : i < l.length) (h' : i < us.length), T.rep (hide w S) us[i] l[i]) : RSl T (hide w S) (.slice (some ⟨g, 0, none⟩) l.length l.length) l := by
  refine ⟨_, _, _, rfl, rfl, Nat.le_refl _, by omega, hlen, fun _ => ⟨g, 0, rfl, fun i hi => ?_⟩⟩
  have hi' : i < us.length := by omega
  refine ⟨us[i], fun j hj => ?_, hr i hi hi'⟩
  unfold hide
  rw [if_neg hg, hb.cell, hcs]
  have hsz : ∀ k (h : k < us.length), us[k].length = T.n := fun k h => T.len (hr k (by omega) h)
  have key : ∀ (us : List (List Value)) (i : Nat) (hi : i < us.length), (∀ k (h : k < us.length), us[k].length = T.n) → ∀ j (hj : j < us[i].length), us.flatten[i * T.n + j]? = some us[i][j] := by
    intro us
    induction us with
    | nil => intro i hi; simp at hi
    | cons u us ih =>
      intro i hi hsz j hj
      cases i with
      | zero => simp at hj ⊢; rw [List.getElem?_append_left (by simpa using hj)]; simp
      | succ i =>
        have h0 := hsz 0 (by simp)
        simp at h0
        simp only [List.flatten_cons]
        rw [List.getElem?_append_right (by rw [h0]; rw [Nat.add_mul]; omega), h0]
        have := ih i (by simpa using hi) (fun k h => by have := hsz (k + 1) (by simpa using h); simpa using this) j (by simpa using hj)
        rw [show (i + 1) * T.n + j - T.n = i * T.n + j by rw [Nat.add_mul]; omega]
        simpa using this
  rw [Nat.zero_add]
  exact key us i hi' hsz j hj

end rules

def ob (v : Value) : List Nat := v.ownBlock.toList

/-- a slice of one's own: its block, from base on, is nobody else's -/
def Own {α : Type} (T : Ty α) (base : Nat) (w : World) (S : List Nat) (E : Nat) (v : Value) (l : List α) : Prop :=
  ∃ us : List (List Value), us.length = l.length ∧ (∀ i (h : i < l.length) (h' : i < us.length), T.rep (hide w (ob v ++ S)) us[i] l[i]) ∧ w.ownsRow base E T.n v l.length us.flatten

theorem Own.nil {α : Type} (T : Ty α) (base : Nat) (w : World) (S : List Nat) (E : Nat) : Own T base w S E (.slice none 0 0) ([] : List α) :=
  ⟨[], rfl, fun i h => by simp at h, World.ownsRow_nil w base E T.n⟩

theorem Own.block {α : Type} {T : Ty α} {base : Nat} {w : World} {S : List Nat} {E : Nat} {v : Value} {l : List α} (h : Own T base w S E v l) : ∀ g ∈ ob v, base ≤ g ∧ g < w.heap.size := by
  obtain ⟨us, _, _, hr⟩ := h
  intro g hg
  unfold ob at hg
  exact hr.lt g (by simpa using hg)

theorem Own.mod {α : Type} {T : Ty α} {base : Nat} {w w' : World} {S M : List Nat} {E : Nat} {v : Value} {l : List α} (h : Own T base w S E v l) (hm : Mod M w w') (hM : ∀ k ∈ M, k ∈ S) (hd : ∀ k ∈ M, k ∉ ob v) : Own T base w' S E v l := by
  obtain ⟨us, h1, h2, h3⟩ := h
  refine ⟨us, h1, fun i hi hi' => T.mono (hide_le hm (fun k hk => List.mem_append_right _ (hM k hk))) (h2 i hi hi'), ?_⟩
  refine ⟨h3.1, ?_⟩
  rcases h3.2 with hn | ⟨g, cap, cur, rfl, hb, hg, rest⟩
  · exact .inl hn
  · refine .inr ⟨g, cap, cur, rfl, hb, ?_, rest⟩
    rw [hm.block g (Array.getElem?_eq_some_iff.1 hg).1 (fun hk => hd g hk (by simp [ob, Value.ownBlock]))]
    exact hg

theorem Own.base {α : Type} {T : Ty α} {base base' : Nat} {w : World} {S : List Nat} {E : Nat} {v : Value} {l : List α} (h : Own T base w S E v l) (hb : base' ≤ base) : Own T base' w S E v l := by
  obtain ⟨us, h1, h2, h3, h4⟩ := h
  refine ⟨us, h1, h2, h3, ?_⟩
  rcases h4 with hn | ⟨g, cap, cur, he, hg, rest⟩
  · exact .inl hn
  · exact .inr ⟨g, cap, cur, he, Nat.le_trans hb hg, rest⟩

theorem Own.less {α : Type} {T : Ty α} {base : Nat} {w : World} {S S' : List Nat} {E : Nat} {v : Value} {l : List α} (h : Own T base w S E v l) (hS : ∀ k ∈ S', k ∈ S) : Own T base w S' E v l := by
  obtain ⟨us, h1, h2, h3⟩ := h
  refine ⟨us, h1, fun i hi hi' => T.mono (hide_less (fun k hk => ?_)) (h2 i hi hi'), h3⟩
  rcases List.mem_append.1 hk with h | h
  · exact List.mem_append_left _ h
  · exact List.mem_append_right _ (hS k h)

theorem Own.shape {α : Type} {T : Ty α} {base : Nat} {w : World} {S : List Nat} {E : Nat} {v : Value} {l : List α} (h : Own T base w S E v l) : ∃ A c, v = .slice A l.length c ∧ l.length ≤ c ∧ c ≤ 9223372036854775807 ∧ ∀ k ∈ ob v, ∃ b, A = some ⟨b, 0, none⟩ ∧ k = b := by
  obtain ⟨us, h1, h2, h3, h4⟩ := h
  rcases h4 with ⟨rfl, hn⟩ | ⟨g, cap, cur, rfl, hb, hg, hnc, hcm, _⟩
  · exact ⟨none, 0, by rw [hn], by omega, by omega, fun k hk => by simp [ob, Value.ownBlock] at hk⟩
  · exact ⟨_, cap, rfl, hnc, by simp only [maxLen] at hcm; omega, fun k hk => ⟨g, rfl, by simpa [ob, Value.ownBlock] using hk⟩⟩

theorem Own.one {α : Type} {T : Ty α} {base : Nat} {w : World} {S : List Nat} {E : Nat} {v : Value} {l : List α} (h : Own T base w S E v l) : v.oneCell' = true := by
  obtain ⟨A, c, rfl, _⟩ := h.shape; rfl

/-- what is read leads nowhere -/
def Flat {α : Type} (T : Ty α) : Prop := ∀ I J us a, T.rep I us a → T.rep J us a
theorem flat_int : Flat Ty.int := fun _ _ _ _ h => h
theorem flat_str : Flat Ty.str := fun _ _ _ _ h => h
theorem flat_bool : Flat Ty.bool := fun _ _ _ _ h => h

theorem Own.modF {α : Type} {T : Ty α} (hT : Flat T) {base : Nat} {w w' : World} {S S' M : List Nat} {E : Nat} {v : Value} {l : List α} (h : Own T base w S E v l) (hm : Mod M w w') (hd : ∀ k ∈ M, k ∉ ob v) : Own T base w' S' E v l := by
  obtain ⟨us, h1, h2, h3⟩ := h
  refine ⟨us, h1, fun i hi hi' => hT _ _ _ _ (h2 i hi hi'), ?_⟩
  refine ⟨h3.1, ?_⟩
  rcases h3.2 with hn | ⟨g, cap, cur, rfl, hb, hg, rest⟩
  · exact .inl hn
  · refine .inr ⟨g, cap, cur, rfl, hb, ?_, rest⟩
    rw [hm.block g (Array.getElem?_eq_some_iff.1 hg).1 (fun hk => hd g hk (by simp [ob, Value.ownBlock]))]
    exact hg

/-- handed on, it reads as its list -/
theorem Own.read {α : Type} {T : Ty α} {base : Nat} {w : World} {S : List Nat} {E : Nat} {v : Value} {l : List α} (h : Own T base w S E v l) (hS : ∀ k ∈ ob v, k ∉ S) (hl : l.length ≤ 140737488355328) : RSl T (hide w S) v l := by
  obtain ⟨us, h1, h2, h3, h4⟩ := h
  rcases h4 with ⟨rfl, hn⟩ | ⟨g, cap, cur, rfl, hb, hg, hnc, hcm, hcs, htake⟩
  · have : l = [] := List.eq_nil_of_length_eq_zero hn
    subst this; exact RSl.nil T _
  · refine ⟨_, _, _, rfl, rfl, hnc, by simp only [maxLen] at hcm; omega, hl, fun h0 => ⟨g, 0, rfl, fun i hi => ?_⟩⟩
    have hgS : g ∉ S := hS g (by simp [ob, Value.ownBlock])
    have hi' : i < us.length := by omega
    refine ⟨us[i], fun j hj => ?_, T.mono (hide_less (fun k hk => List.mem_append_right _ hk)) (h2 i hi hi')⟩
    have hsz : ∀ k (h : k < us.length), us[k].length = T.n := fun k h => T.len (h2 k (by omega) h)
    unfold hide
    rw [if_neg hgS]
    have hcell : w.cell? ⟨g, 0 + i * T.n + j, none⟩ = cur.toList[i * T.n + j]? := by
      unfold World.cell?; rw [hg]; simp
    rw [hcell]
    have hjn : j < T.n := by rw [← hsz i hi']; exact hj
    have hlt : i * T.n + j < l.length * T.n := by
      have : (i + 1) * T.n ≤ l.length * T.n := Nat.mul_le_mul_right _ (by omega)
      rw [Nat.add_mul] at this; omega
    have hfl : us.flatten[i * T.n + j]? = cur.toList[i * T.n + j]? := by rw [← htake, List.getElem?_take_of_lt hlt]
    rw [← hfl]
    have key : ∀ (us : List (List Value)) (i : Nat) (hi : i < us.length), (∀ k (h : k < us.length), us[k].length = T.n) → ∀ j (hj : j < us[i].length), us.flatten[i * T.n + j]? = some us[i][j] := by
      intro us
      induction us with
      | nil => intro i hi; simp at hi
      | cons u us ih =>
        intro i hi hsz j hj
        cases i with
        | zero => simp at hj ⊢; rw [List.getElem?_append_left (by simpa using hj)]; simp
        | succ i =>
          have h0 := hsz 0 (by simp)
          simp at h0
          simp only [List.flatten_cons]
          rw [List.getElem?_append_right (by rw [h0]; rw [Nat.add_mul]; omega), h0]
          have := ih i (by simpa using hi) (fun k h => by have := hsz (k + 1) (by simpa using h); simpa using this) j (by simpa using hj)
          rw [show (i + 1) * T.n + j - T.n = i * T.n + j by rw [Nat.add_mul]; omega]
          simpa using this
    exact key us i hi' hsz j hj

/-- cells that a read slice holds, all together -/
theorem RSl.cells {α : Type} {T : Ty α} {I : CM} {A : Option Addr} {n c : Nat} {l : List α} (h : RSl T I (.slice A n c) l) (h0 : l ≠ []) :
    ∃ b o, A = some ⟨b, o, none⟩ ∧ ∃ us : List (List Value), us.length = l.length ∧ (∀ i (h : i < l.length) (h' : i < us.length), T.rep I us[i] l[i]) ∧ (∀ j u, us.flatten[j]? = some u → I b (o + j) = some u) := by
  obtain ⟨A', n', c', he, hn, hc, hc', hc2, h⟩ := h
  cases he
  have hpos : l.length ≠ 0 := fun e => h0 (List.eq_nil_of_length_eq_zero e)
  obtain ⟨b, o, rfl, hh⟩ := h (by omega)
  refine ⟨b, o, rfl, ?_⟩
  clear h hc hc' hc2 hn h0 hpos
  induction l generalizing o with
  | nil => exact ⟨[], rfl, fun i h => by simp at h, fun j u h => by simp at h⟩
  | cons x l ih =>
    obtain ⟨u0, hu0, hr0⟩ := hh 0 (by simp)
    obtain ⟨us, h1, h2, h3⟩ := ih (o + T.n) (fun i hi => by
      obtain ⟨us, hu, hr⟩ := hh (i + 1) (by simpa using hi)
      exact ⟨us, fun j hj => by rw [← hu j hj, Nat.add_mul]; congr 1; omega, by simpa using hr⟩)
    have hlen0 := T.len hr0
    refine ⟨u0 :: us, by simp [h1], fun i hi hi' => ?_, fun j u hj => ?_⟩
    · cases i with
      | zero => simpa using hr0
      | succ i => simpa using h2 i (by simpa using hi) (by simpa using hi')
    · simp only [List.flatten_cons] at hj
      rcases Nat.lt_or_ge j u0.length with hlt | hge
      · rw [List.getElem?_append_left hlt, List.getElem?_eq_getElem hlt] at hj
        have := hu0 j hlt
        simp only [Nat.zero_mul, Nat.add_zero] at this
        rw [this]; exact hj
      · rw [List.getElem?_append_right hge] at hj
        have := h3 (j - u0.length) u hj
        rw [← this]; congr 1; omega

theorem oneCells {α : Type} {T : Ty α} {I : CM} {us : List (List Value)} {l : List α} (hl : us.length = l.length) (hr : ∀ i (h : i < l.length) (h' : i < us.length), T.rep I us[i] l[i]) : ∀ u ∈ us.flatten, u.oneCell' = true := by
  intro u hu
  obtain ⟨v, hv, huv⟩ := List.mem_flatten.1 hu
  obtain ⟨i, hi, rfl⟩ := List.getElem_of_mem hv
  exact T.one (hr i (by omega) hi) u huv

theorem flatten_len {α : Type} {T : Ty α} {I : CM} : ∀ {us : List (List Value)} {l : List α} (hl : us.length = l.length) (hr : ∀ i (h : i < l.length) (h' : i < us.length), T.rep I us[i] l[i]), us.flatten.length = l.length * T.n := by
  intro us
  induction us with
  | nil => intro l hl hr; cases l with
    | nil => simp
    | cons x l => simp at hl
  | cons u us ih =>
    intro l hl hr
    cases l with
    | nil => simp at hl
    | cons x l =>
      have h0 := T.len (hr 0 (by simp) (by simp))
      simp at h0
      have := ih (l := l) (by simpa using hl) (fun i h h' => by have := hr (i + 1) (by simpa using h) (by simpa using h'); simpa using this)
      simp only [List.flatten_cons, List.length_append, List.length_cons, this, h0, Nat.add_mul]; omega

section app
variable {P : Program} {Kp : PK} {w : World} {K : VK}

/-- append of a slice that is read onto one of one's own -/
theorem rAppend {α : Type} {T : Ty α} {t rt e sz by_ : Nat} {cs : List Bool} [h : SliceT P t e sz by_] {z : Value} [hz : ZeroT P e z] {base : Nat} {S : List Nat} {v : Value} {l : List α} {A : Option Addr} {n c : Nat} {m : List α}
    (hown : Own T base w S e v l) (hx : RSl T (hide w (ob v ++ S)) (.slice A n c) m) (hsz : T.n = sz) (hzs : z.cells.size = sz) (hpos : 0 < sz) (hbytes : (l.length + m.length) * by_ ≤ 140737488355328) (hby : 0 < by_) (hbase : base ≤ w.heap.size)
    (hk : ∀ v' w', Own T base w' S e v' (l ++ m) → Mod (ob v) w w' → CM.le (hide w (ob v ++ S)) (hide w' (ob v' ++ S)) → (∀ g ∈ ob v', g ∈ ob v ∨ w.heap.size ≤ g) → K v' w') :
    oBI P .append #[t, t] rt cs [v, .slice A n c] Kp w K := by
  obtain ⟨hu, i, hi, hsi, hbi⟩ := sliceInfo_spec h.h
  have hiz : i.zero = some z := by
    have := hz.h; unfold zeroOf at this; rw [hi] at this; simpa using this
  have hn : n = m.length := by obtain ⟨_, _, _, he, hn, _⟩ := hx; cases he; exact hn
  unfold oBI builtin
  dsimp only
  by_cases hm : m = []
  · subst hm
    have hn0 : n = 0 := by simpa using hn
    subst hn0
    have hrun : (Builtin.append_ #[t, t] rt #[v, .slice A 0 c]).run P w = .ok v w := by
      obtain ⟨us, h1, h2, h3, h4⟩ := hown
      have hcore : ∀ (bse : Option Addr) (sl cap : Nat), sl ≤ cap → (Builtin.append_ #[t, t] rt #[.slice bse sl cap, .slice A 0 c]).run P w = .ok (.slice bse sl cap) w := by
        intro bse sl cap hle
        have hf : (Builtin.firstCells sz 0 (.slice A 0 c)).run P w = .ok #[] w := by
          cases A <;> simp [Builtin.firstCells, Go.loadCells, Go.loadCellsFrom]
        simp only [Builtin.append_, List.getElem?_toArray, List.getElem?_cons_zero, List.getElem?_cons_succ, Sem.run_bind, run_und hu, Result.andThen_ok, Sem.run_pure, run_size hi, hsi, Builtin.lenOf, Bool.false_eq_true, if_false, Nat.add_zero, hle, if_true, Bool.not_false, hf]
        cases bse <;> simp [Go.storeCells]
      rcases h4 with ⟨rfl, hn⟩ | ⟨g, cap, cur, rfl, hb, hg, hnc, hcm, hcs, htake⟩
      · exact hcore none 0 0 (Nat.le_refl _)
      · exact hcore _ _ _ hnc
    rw [show (List.toArray [v, .slice A 0 c]) = #[v, .slice A 0 c] from rfl]
    simp only [Sem.run_bind, hrun, Result.andThen_ok, Sem.run_pure]
    exact hk v w (by simpa using hown) (Mod.refl _ _) (CM.le.refl _) (fun g hg => .inl hg)
  · obtain ⟨b, o, rfl, us, h1, h2, h3⟩ := hx.cells hm
    obtain ⟨us0, g1, g2, g3⟩ := hown
    subst hsz
    have hfl := flatten_len h1 h2
    have hmaxb : l.length + m.length ≤ maxLen := by
      have : l.length + m.length ≤ (l.length + m.length) * by_ := Nat.le_mul_of_pos_right _ hby
      simp only [maxLen]; omega
    obtain ⟨v', w', hr, hown', hgr, _⟩ := run_append_own (P := P) w base t rt e i z T.n by_ hu hi hiz hsi hbi hzs hpos v l.length us0.flatten g3 ⟨b, o, none⟩ m.length c us.flatten hfl
      (fun j u hj => by rw [add_ad]; exact hide_cell (h3 j u hj)) (oneCells h1 h2) hmaxb hbytes hbase
    rw [hn]
    rw [show (List.toArray [v, .slice (some ⟨b, o, none⟩) m.length c]) = #[v, .slice (some ⟨b, o, none⟩) m.length c] from rfl]
    simp only [Sem.run_bind, hr, Result.andThen_ok, Sem.run_pure]
    have hmod : Mod (ob v) w w' := Mod.grown hgr (fun k hk => by unfold ob; rw [hk]; simp)
    have hnew : ∀ g ∈ ob v', g ∈ ob v ∨ w.heap.size ≤ g := by
      intro g hg
      by_cases hgv : g ∈ ob v
      · exact .inl hgv
      · refine .inr ?_
        rcases Nat.lt_or_ge g w.heap.size with hlt | hge
        · exfalso
          rcases g3 with ⟨glen, ⟨rfl, hl0⟩ | ⟨g', cap, cur, rfl, hb', hg', hnc, hcm, hcs, htake⟩⟩
          · have hr' := run_append_nil (P := P) w t rt e i z hu hi hiz ⟨b, o, none⟩ m.length c us.flatten (by rw [hfl, hsi]) (fun j u hj => by rw [add_ad]; exact hide_cell (h3 j u hj))
              (by cases m with | nil => exact absurd rfl hm | cons _ _ => simp) (by simp only [maxLen] at hmaxb; omega) (by
                have : m.length * i.bytes ≤ (l.length + m.length) * by_ := by rw [hbi]; exact Nat.mul_le_mul_right _ (by omega)
                omega)
            rw [hr] at hr'
            injection hr' with e1 e2
            subst e1
            simp [ob, Value.ownBlock] at hg
            omega
          · by_cases hroom : l.length + m.length ≤ cap
            · have hfit : l.length * i.size + us.flatten.length ≤ cur.size := by rw [hfl, hcs, hsi, ← Nat.add_mul]; exact Nat.mul_le_mul_right _ hroom
              have hr' := run_append_room (P := P) w t rt e i hu hi g' l.length cap cur hg' ⟨b, o, none⟩ m.length c us.flatten (by rw [hfl, hsi]) (fun j u hj => by rw [add_ad]; exact hide_cell (h3 j u hj)) (oneCells h1 h2) hroom hfit
              rw [hr] at hr'
              injection hr' with e1 e2
              subst e1
              exact hgv hg
            · have holds : ∀ j u, us0.flatten[j]? = some u → w.cell? ((⟨g', 0, none⟩ : Addr).add j) = some u := World.ownsRow.cells ⟨glen, .inr ⟨g', cap, cur, rfl, hb', hg', hnc, hcm, hcs, htake⟩⟩ (g := g') rfl
              have hr' := run_append_grow (P := P) w t rt e i z hu hi hiz ⟨g', 0, none⟩ l.length cap us0.flatten (by rw [glen, hsi]) holds ⟨b, o, none⟩ m.length c us.flatten (by rw [hfl, hsi]) (fun j u hj => by rw [add_ad]; exact hide_cell (h3 j u hj)) (by omega) (by simp only [maxLen] at hmaxb; omega) (growslice_fits (by omega) (by rw [hbi]; exact hbytes))
              rw [hr] at hr'
              injection hr' with e1 e2
              subst e1
              simp [ob, Value.ownBlock] at hg
              omega
        · exact hge
    have hle : CM.le (hide w (ob v ++ S)) (hide w' (ob v' ++ S)) := by
      intro b' o' x hx'
      have hx2 := hide_cell hx'
      have hlt := World.block_lt_of_cell? w ⟨b', o', none⟩ hx2
      unfold hide at hx' ⊢
      split at hx'
      · cases hx'
      · rename_i hnb
        simp only [List.mem_append, not_or] at hnb
        rw [if_neg (by simp only [List.mem_append, not_or]; exact ⟨fun hm => by rcases hnew _ hm with h1 | h1; exact hnb.1 h1; simp only at hlt; omega, hnb.2⟩)]
        rw [← hx']
        exact World.cell?_of_block (hmod.block b' hlt hnb.1)
    refine hk v' w' ⟨us0 ++ us, by simp [g1, h1], fun i hi hi' => ?_, ?_⟩ hmod hle hnew
    · by_cases hil : i < l.length
      · rw [List.getElem_append_left (by omega), List.getElem_append_left hil]
        exact T.mono hle (g2 i hil (by omega))
      · rw [List.getElem_append_right (by omega), List.getElem_append_right (by omega)]
        have := h2 (i - l.length) (by simp at hi; omega) (by simp at hi'; omega)
        simp only [g1]
        exact T.mono hle this
    · simp only [List.length_append, List.flatten_append]; exact hown'
theorem rEqlNil {t e sz by_ : Nat} {ox oy : Operand} [h : SliceT P t e sz by_] {A : Option Addr} {n c : Nat} (hk : K (.bool A.isNone) w) : oBin P .eql t ox oy (.slice A n c) (.slice none 0 0) Kp w K := by
  obtain ⟨hu, _⟩ := sliceInfo_spec h.h
  refine rBin_of ?_ hk
  have : (Op.equalIn Op.maxDepth t (.slice A n c) (.slice none 0 0)).run P w = .ok A.isNone w := by
    unfold Op.maxDepth
    rw [show (10000 : Nat) = 9999 + 1 from rfl, Op.equalIn]
    simp only [Sem.run_bind, run_und hu, Result.andThen_ok]
    cases A <;> rfl
  simp only [eqGuard, binOp, Op.equal, Sem.run_bind, this, Bool.not_true, Bool.false_eq_true, if_false, Result.andThen_ok, Sem.run_pure]

theorem rMin {rt : Nat} {ts : Array TypeId} {cs : List Bool} {k : IntKind} {a b : Int} (hk : K (.int k (min a b)) w) : oBI P .min ts rt cs [.int k a, .int k b] Kp w K := by
  unfold oBI builtin Builtin.min_
  simp only [List.foldlM_cons, List.foldlM_nil, Builtin.min2, pure_bind, Sem.run_bind, Sem.run_pure, Result.andThen_ok]
  have : (if b < a then b else a) = min a b := by omega
  rw [this]; exact hk
theorem rMax {rt : Nat} {ts : Array TypeId} {cs : List Bool} {k : IntKind} {a b : Int} (hk : K (.int k (max a b)) w) : oBI P .max ts rt cs [.int k a, .int k b] Kp w K := by
  unfold oBI builtin Builtin.max_
  simp only [List.foldlM_cons, List.foldlM_nil, Builtin.max2, pure_bind, Sem.run_bind, Sem.run_pure, Result.andThen_ok]
  have : (if b > a then b else a) = max a b := by omega
  rw [this]; exact hk
end app

theorem Blk.own {α : Type} {T : Ty α} {w : World} {S : List Nat} {base g E : Nat} (hb : Blk w g [] E) (hg : base ≤ g) : Own T base w S E (.slice (some ⟨g, 0, none⟩) 0 0) ([] : List α) :=
  ⟨[], rfl, fun i h => by simp at h, by simp, .inr ⟨g, 0, #[], rfl, hg, hb, Nat.le_refl _, by simp [maxLen], by simp, by simp⟩⟩

end Go.Proofs.YtlbihkgfejgefaaDoor.L
