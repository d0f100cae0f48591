/- Lib 12: slices and structs that are owned; the rules of the words over 'St'. -/
import Derived.Test.YtlbihkgfejgefaaDoorL11
namespace Go.Proofs.YtlbihkgfejgefaaDoor.L
open Go Go.RowKit
set_option linter.unusedVariables false

/-- a slice whose cells stand in C, of things that last (I) -/
def RS {α : Type} (T : Ty α) (C I : CM) (v : Value) (l : List α) : Prop :=
  ∃ A n c, v = .slice A n c ∧ n = l.length ∧ n ≤ c ∧ c ≤ 9223372036854775807 ∧ n ≤ 140737488355328 ∧
    (n ≠ 0 → ∃ b o, A = some ⟨b, o, none⟩ ∧ ∀ i (h : i < l.length), ∃ us, (∀ j (hj : j < us.length), C b (o + i * T.n + j) = some us[j]) ∧ T.rep I us l[i])

section
variable {α : Type} {T : Ty α} {C I J : CM} {v : Value} {l : List α}
theorem RS.mono {C' I' : CM} (hC : CM.le C C') (hI : CM.le I I') (h : RS T C I v l) : RS T C' I' v l := by
  obtain ⟨A, n, c, rfl, hn, hc, hc', hc2, h⟩ := h
  refine ⟨A, n, c, rfl, hn, hc, hc', hc2, fun h0 => ?_⟩
  obtain ⟨b, o, hA, h⟩ := h h0
  refine ⟨b, o, hA, fun i hi => ?_⟩
  obtain ⟨us, hu, hr⟩ := h i hi
  exact ⟨us, fun j hj => hC _ _ _ (hu j hj), T.mono hI hr⟩
theorem RSl.rs (h : RSl T I v l) : RS T I I v l := h
theorem RS.sl (h : RS T I I v l) : RSl T I v l := h
theorem RSl.rd {F : Hp} (h : RSl T I v l) : RS T (Rd I F) I v l := h.rs.mono (CM.le_rd I F) (CM.le.refl I)
theorem RS.gr {F : Hp} (h : RS T (Rd I F) I v l) (hg : Gr F I J) : RS T (Rd J F) J v l := h.mono hg.rd hg.le
theorem RS.flat (hT : Flat T) (h : RS T C I v l) : RS T C J v l := by
  obtain ⟨A, n, c, rfl, hn, hc, hc', hc2, h⟩ := h
  refine ⟨A, n, c, rfl, hn, hc, hc', hc2, fun h0 => ?_⟩
  obtain ⟨b, o, hA, h⟩ := h h0
  refine ⟨b, o, hA, fun i hi => ?_⟩
  obtain ⟨us, hu, hr⟩ := h i hi
  exact ⟨us, hu, hT _ _ _ _ hr⟩
theorem RS.cut {A : Option Addr} {n c : Nat} (h : RS T C I (.slice A n c) l) {lo m : Nat} (h1 : lo ≤ m) (h2 : m ≤ l.length) :
    RS T C I (.slice (slA A c lo T.n) (m - lo) (c - lo)) ((l.drop lo).take (m - lo)) := by
  obtain ⟨A', n', c', he, hn, hc, hc', hc2, h⟩ := h
  cases he
  refine ⟨_, _, _, rfl, by simp; omega, by omega, by omega, by omega, fun h0 => ?_⟩
  obtain ⟨b, o, rfl, hh⟩ := h (by omega)
  refine ⟨b, o + lo * T.n, ?_, fun i hi => ?_⟩
  · unfold slA; rw [if_neg (by omega)]; simp [add_ad]
  · have hi' : i < m - lo := by simp at hi; omega
    obtain ⟨us, hu, hr⟩ := hh (lo + i) (by omega)
    refine ⟨us, fun j hj => ?_, ?_⟩
    · rw [← hu j hj, Nat.add_mul]; congr 1; omega
    · simpa using hr
theorem RS.take0 {A : Option Addr} {n c : Nat} (h : RS T C I (.slice A n c) l) {m : Nat} (h2 : m ≤ l.length) : RS T C I (.slice A m c) (l.take m) := by
  have := h.cut (Nat.zero_le m) h2
  rw [slA_zero] at this; simpa using this
theorem RS.drop0 {A : Option Addr} {n c : Nat} (h : RS T C I (.slice A n c) l) {m : Nat} (h2 : m ≤ l.length) : RS T C I (.slice (slA A c m T.n) (n - m) (c - m)) (l.drop m) := by
  have hn : n = l.length := by obtain ⟨_, _, _, he, hn, _⟩ := h; cases he; exact hn
  have := h.cut h2 (Nat.le_refl _)
  rw [List.take_of_length_le (by simp)] at this
  rw [hn]; exact this
theorem RS.nil {C I : CM} : RS T C I (.slice none 0 0) ([] : List α) := ⟨none, 0, 0, rfl, rfl, Nat.le_refl _, by omega, by omega, fun h => absurd rfl h⟩
/-- its parts -/
theorem RS.parts (h : RS T C I v l) : ∃ A c, v = .slice A l.length c ∧ l.length ≤ c ∧ c ≤ 9223372036854775807 ∧ l.length ≤ 140737488355328 := by
  obtain ⟨A, n, c, rfl, rfl, h1, h2, h3, _⟩ := h
  exact ⟨A, c, rfl, h1, h2, h3⟩
/-- an element's cells -/
theorem RS.at {A : Option Addr} {n c : Nat} (h : RS T C I (.slice A n c) l) {i : Nat} (hi : i < l.length) : ∃ b o us, A = some ⟨b, o, none⟩ ∧ (∀ j (hj : j < us.length), C b (o + i * T.n + j) = some us[j]) ∧ T.rep I us l[i] ∧ us.length = T.n := by
  obtain ⟨A', n', c', he, hn, _, _, _, h⟩ := h
  cases he
  obtain ⟨b, o, rfl, hh⟩ := h (by omega)
  obtain ⟨us, hu, hr⟩ := hh i hi
  exact ⟨b, o, us, rfl, hu, hr, T.len hr⟩
end

def Ty.raw (n : Nat) : Ty (List Value) where
  n := n
  rep _ us a := us = a ∧ a.length = n ∧ ∀ u ∈ a, u.oneCell' = true
  len h := by rw [h.1]; exact h.2.1
  mono _ h := h
  one h u hu := h.2.2 u (h.1 ▸ hu)

/-- a slice of one's own at the head of its block; what stands in its spare room is nobody's matter -/
def OwnSl {α : Type} (T : Ty α) (E : Nat) (v : Value) (l : List α) : HP where
  p I h := ∃ us : List (List Value), us.length = l.length ∧ (∀ i (h : i < l.length) (h' : i < us.length), T.rep I us[i] l[i]) ∧
    ((v = .slice none 0 0 ∧ l = [] ∧ ∀ b, h b = none) ∨
     ∃ g cap cur, v = .slice (some ⟨g, 0, none⟩) l.length cap ∧ h = Hp.one g (.cells cur E (0, 0)) ∧ l.length ≤ cap ∧ cap ≤ maxLen ∧ cur.size = cap * T.n ∧ cur.toList.take (l.length * T.n) = us.flatten)
  mono hle h := by obtain ⟨us, h1, h2, h3⟩ := h; exact ⟨us, h1, fun i hi hi' => T.mono hle (h2 i hi hi'), h3⟩

theorem flat_key {n : Nat} : ∀ (us : List (List Value)) (i : Nat) (hi : i < us.length), (∀ k (h : k < us.length), us[k].length = n) → ∀ j (hj : j < us[i].length), us.flatten[i * n + j]? = some us[i][j] := by
  intro us
  induction us with
  | nil => intro i hi; simp at hi
  | cons u us ih =>
    intro i hi hsz j hj
    cases i with
    | zero => simp at hj ⊢; rw [List.getElem?_append_left (by simpa using hj)]; simp
    | succ i =>
      have h0 := hsz 0 (by simp)
      simp at h0
      simp only [List.flatten_cons]
      rw [List.getElem?_append_right (by rw [h0]; rw [Nat.add_mul]; omega), h0]
      have := ih i (by simpa using hi) (fun k h => by have := hsz (k + 1) (by simpa using h); simpa using this) j (by simpa using hj)
      rw [show (i + 1) * n + j - n = i * n + j by rw [Nat.add_mul]; omega]
      simpa using this

theorem OwnSl.rs {α : Type} {T : Ty α} {E : Nat} {v : Value} {l : List α} {I : CM} {h : Hp} (hp : (OwnSl T E v l).p I h) (hl : l.length ≤ 140737488355328) : RS T h.cells I v l := by
  obtain ⟨us, h1, h2, h3⟩ := hp
  rcases h3 with ⟨rfl, rfl, _⟩ | ⟨g, cap, cur, rfl, rfl, hc, hcm, hcs, ht⟩
  · exact RS.nil
  · refine ⟨_, _, _, rfl, rfl, hc, by simp only [maxLen] at hcm; omega, hl, fun h0 => ⟨g, 0, rfl, fun i hi => ?_⟩⟩
    have hi' : i < us.length := by omega
    refine ⟨us[i], fun j hj => ?_, h2 i hi hi'⟩
    have hsz : ∀ k (h : k < us.length), us[k].length = T.n := fun k h => T.len (h2 k (by omega) h)
    have hlt : i * T.n + j < l.length * T.n := by
      have hjn : j < T.n := by rw [← hsz i hi']; exact hj
      have : (i + 1) * T.n ≤ l.length * T.n := Nat.mul_le_mul_right _ (by omega)
      rw [Nat.add_mul] at this; omega
    have := flat_key us i hi' hsz j hj
    rw [← ht, List.getElem?_take_of_lt hlt] at this
    unfold Hp.cells; rw [Hp.one_self, Nat.zero_add]; simpa using this

section
variable {P : Program} {Kp : PK} {K : VK} {c : World} {I : CM} {F : Hp} {As : List HP} {w : World}

theorem St.readI (hs : St c I F As w) {α : Type} {T : Ty α} {v : Value} {l : List α} (h : RS T (Rd I F) I v l) : RS T (hide w []) I v l := by
  refine h.mono (fun b o v hv => ?_) (CM.le.refl _)
  unfold hide
  rw [if_neg (by simp)]
  unfold Rd CM.add at hv
  split at hv
  · rename_i x hx; cases hv; exact hs.pers _ _ _ hx
  · unfold Hp.cells at hv
    split at hv
    · rename_i c' t' f' hh
      have := hs.frame b _ hh
      unfold World.cell?; rw [this]; simpa using hv
    · cases hv
theorem St.rdCell (hs : St c I F As w) {b o : Nat} {v : Value} (hv : Rd I F b o = some v) : w.cell? ⟨b, o, none⟩ = some v := by
  unfold Rd CM.add at hv
  split at hv
  · rename_i x hx; cases hv; exact hs.pers _ _ _ hx
  · unfold Hp.cells at hv
    split at hv
    · rename_i c' t' f' hh
      have := hs.frame b _ hh
      unfold World.cell?; rw [this]; simpa using hv
    · cases hv

theorem St.sl {α : Type} {T : Ty α} {E : Nat} {v : Value} {l : List α} (hs : St c I F (OwnSl T E v l :: As) w) : ∃ A c, v = .slice A l.length c ∧ l.length ≤ c ∧ c ≤ 9223372036854775807 := by
  obtain ⟨hA, ⟨us, h1, h2, h3⟩, _⟩ := hs.upd
  rcases h3 with ⟨rfl, rfl, _⟩ | ⟨g, cap, cur, rfl, rfl, hc, hcm, hcs, ht⟩
  · exact ⟨none, 0, rfl, Nat.le_refl _, by omega⟩
  · exact ⟨_, cap, rfl, hc, by simp only [maxLen] at hcm; omega⟩
theorem St.slRead {α : Type} {T : Ty α} {E : Nat} {v : Value} {l : List α} (hs : St c I F (OwnSl T E v l :: As) w) (hl : l.length ≤ 140737488355328) : RS T (hide w []) I v l := by
  obtain ⟨hA, a, b, _⟩ := hs.upd
  refine (OwnSl.rs a hl).mono (fun k o v hv => ?_) (CM.le.refl _)
  unfold hide
  rw [if_neg (by simp)]
  unfold Hp.cells at hv
  split at hv
  · rename_i c' t' f' hh
    have := b k _ hh
    unfold World.cell?; rw [this]; simpa using hv
  · cases hv
theorem St.lastSl {α : Type} {T : Ty α} {E : Nat} {v : Value} {l : List α} (hs : St c I F (OwnSl T E v l :: As) w) (hl : l.length ≤ 140737488355328) : ∃ J, Gr F I J ∧ RSl T J v l ∧ St c J F As w := by
  obtain ⟨hA, a, g, e, f⟩ := hs.last
  exact ⟨_, g, (OwnSl.rs a hl).mono e g.le, f⟩
theorem St.lendSl {α : Type} {T : Ty α} {E : Nat} {v : Value} {l : List α} (hs : St c I F (OwnSl T E v l :: As) w) (hl : l.length ≤ 140737488355328) :
    ∃ F', (∀ b x, F b = some x → F' b = some x) ∧ RS T (Rd I F') I v l ∧ St c I F' As w ∧ (∀ J Bs w', Gr F' I J → St c J F' Bs w' → Gr F I J ∧ St c J F (OwnSl T E v l :: Bs) w') := by
  obtain ⟨F', h1, ⟨hA, a, h2, h3⟩, h4, h5⟩ := hs.lend
  refine ⟨F', h1, (OwnSl.rs a hl).mono (fun b o v hv => ?_) (CM.le.refl _), h4, h5⟩
  have hb : hA b ≠ none := fun h0 => by unfold Hp.cells at hv; rw [h0] at hv; cases hv
  unfold Rd CM.add
  rw [h3 b hb o]
  unfold Hp.cells at hv ⊢
  cases hh : hA b with
  | none => exact absurd hh hb
  | some x => rw [hh] at hv; rw [h2 _ _ hh]; exact hv
theorem Rd.le {F F' : Hp} (h : ∀ b x, F b = some x → F' b = some x) : CM.le (Rd I F) (Rd I F') := by
  intro b o v hv
  unfold Rd CM.add at hv ⊢
  cases hI : I b o with
  | some x => rw [hI] at hv; exact hv
  | none =>
    rw [hI] at hv
    unfold Hp.cells at hv ⊢
    cases hh : F b with
    | none => rw [hh] at hv; cases hv
    | some x => rw [hh] at hv; rw [h _ _ hh]; exact hv

/-! ### structs: joined parts -/
def HP.sep (A B : HP) : HP := ⟨fun I h => star [A, B] I h, fun hle h => star.mono hle h⟩
def HP.ex {X : Type} (f : X → HP) : HP := ⟨fun I h => ∃ x, (f x).p I h, fun hle ⟨x, h⟩ => ⟨x, (f x).mono hle h⟩⟩
def HP.pur (φ : Prop) : HP := ⟨fun _ h => φ ∧ ∀ b, h b = none, fun _ h => h⟩
/-- what is known of things that last -/
def HP.rep (φ : CM → Prop) (hm : ∀ {I J}, CM.le I J → φ I → φ J) : HP := ⟨fun I h => φ I ∧ ∀ b, h b = none, fun hle h => ⟨hm hle h.1, h.2⟩⟩

theorem star_sep {A B : HP} {l : List HP} {h : Hp} : star (HP.sep A B :: l) I h ↔ star (A :: B :: l) I h := by
  constructor
  · rintro ⟨h1, h2, ⟨h3, h4, a, ⟨h5, h6, b, e, d1, rfl⟩, d2, rfl⟩, f, d3, rfl⟩
    have h6' : h6 = fun _ => none := funext e
    subst h6'
    have e5 : Hp.add h5 (fun _ => none) = h5 := by funext b; unfold Hp.add; cases h5 b <;> rfl
    rw [e5] at d2 d3 ⊢
    have d3' := Hp.apart_add.1 d3.symm
    exact ⟨h3, Hp.add h5 h2, a, ⟨h5, h2, b, f, d3'.2.symm, rfl⟩, Hp.apart_add.2 ⟨d2, d3'.1.symm⟩, by rw [Hp.add_assoc]⟩
  · rintro ⟨h1, h2, a, ⟨h3, h4, b, f, d1, rfl⟩, d2, rfl⟩
    have d2' := Hp.apart_add.1 d2
    refine ⟨Hp.add h1 h3, h4, ⟨h1, h3, a, ⟨h3, fun _ => none, b, fun _ => rfl, fun b => .inr rfl, ?_⟩, d2'.1, rfl⟩, f, (Hp.apart_add.2 ⟨d2'.2.symm, d1.symm⟩).symm, by rw [Hp.add_assoc]⟩
    funext b; unfold Hp.add; cases h3 b <;> rfl
theorem St.sep {A B : HP} (hs : St c I F (HP.sep A B :: As) w) : St c I F (A :: B :: As) w := hs.map fun _ => star_sep.1
theorem St.join {A B : HP} (hs : St c I F (A :: B :: As) w) : St c I F (HP.sep A B :: As) w := hs.map fun _ => star_sep.2
theorem St.ex {X : Type} {f : X → HP} (hs : St c I F (HP.ex f :: As) w) : ∃ x, St c I F (f x :: As) w := by
  obtain ⟨h, ⟨h1, h2, ⟨x, a⟩, b⟩, e⟩ := hs.own
  exact ⟨x, hs.os, hs.tape, hs.output, hs.pers, hs.frame, h, ⟨h1, h2, a, b⟩, e⟩
theorem St.toEx {X : Type} {f : X → HP} (x : X) (hs : St c I F (f x :: As) w) : St c I F (HP.ex f :: As) w := hs.wk fun _ _ h => ⟨x, h⟩
theorem St.pur {φ : Prop} (hs : St c I F (HP.pur φ :: As) w) : φ ∧ St c I F As w := by
  obtain ⟨hA, a, _⟩ := hs.upd
  exact ⟨a.1, hs.drop⟩
theorem St.toPur {φ : Prop} (hφ : φ) (hs : St c I F As w) : St c I F (HP.pur φ :: As) w := hs.push.wk fun _ _ h => ⟨hφ, h⟩
theorem St.rep {φ : CM → Prop} {hm : ∀ {I J}, CM.le I J → φ I → φ J} (hs : St c I F (HP.rep φ hm :: As) w) : φ I ∧ St c I F As w := by
  obtain ⟨hA, a, _⟩ := hs.upd
  exact ⟨a.1, hs.drop⟩
theorem St.toRep {φ : CM → Prop} {hm : ∀ {I J}, CM.le I J → φ I → φ J} (hφ : φ I) (hs : St c I F As w) : St c I F (HP.rep φ hm :: As) w := by
  obtain ⟨h, a, b⟩ := hs.own
  exact ⟨hs.os, hs.tape, hs.output, hs.pers, hs.frame, h, ⟨fun _ => none, h, ⟨hφ, fun _ => rfl⟩, a, fun b => .inl rfl, by funext b; rfl⟩, b⟩

/-! ### the rules -/
theorem rLdS {t : Nat} [h : Scalar P t] {g o : Nat} {cs : List Value} {E : Nat} {v : Value} (hs : St c I F (Cells g cs E :: As) w) (ho : cs[o]? = some v) (hk : K v w) : oLoad P t (.pointer (some ⟨g, o, none⟩)) Kp w K :=
  rLoad (by rw [hs.cell]; exact ho) hk
theorem rLDS {t : Nat} [h : Scalar P t] {g o : Nat} {cs : List Value} {E : Nat} {v : Value} (hs : St c I F (Cells g cs E :: As) w) (ho : cs[o]? = some v) (hk : K v w) : oLD P t (.pointer (some ⟨g, o, none⟩)) w K :=
  rLD (by rw [hs.cell]; exact ho) hk
theorem rStS {t : Nat} [h : Scalar P t] {g o : Nat} {cs : List Value} {E : Nat} {v : Value} (hs : St c I F (Cells g cs E :: As) w) (ho : o < cs.length) (h1 : v.oneCell' = true)
    (hk : ∀ w', St c I F (Cells g (cs.set o v) E :: As) w' → K undef w') : oStore P t (.pointer (some ⟨g, o, none⟩)) v Kp w K :=
  rStore hs.blk ho h1 fun w' hm hb _ => hk w' (hs.setBlk hm hb)
theorem rStNS {t n : Nat} [h : AggN P t n] {g o : Nat} {vs : List Value} {cs : List Value} {E : Nat} (hs : St c I F (Cells g cs E :: As) w) (hl : vs.length = n) (ho : o + vs.length ≤ cs.length) (h1 : ∀ v ∈ vs, v.oneCell' = true)
    (hk : ∀ w', St c I F (Cells g (cs.take o ++ vs ++ cs.drop (o + vs.length)) E :: As) w' → K undef w') : oStore P t (.pointer (some ⟨g, o, none⟩)) (.agg vs.toArray) Kp w K :=
  rStoreN hs.blk hl ho h1 fun w' hm hb _ => hk w' (hs.setBlk hm hb)
theorem rBoxS {t : Nat} {v : Value} (hs : St c I F As w) (vs : List Value) (hv : v.cells = vs.toArray) (hk : ∀ g w', St c I F (Cells g vs t :: As) w' → K (.pointer (some ⟨g, 0, none⟩)) w') : oBox P t v Kp w K :=
  rBox vs hv fun w' hm hb _ => hk _ w' (hs.alloc hm hb)
theorem rAllocS {t : Nat} {z : Value} [h : ZeroT P t z] (hs : St c I F As w) (vs : List Value) (hv : z.cells = vs.toArray) (hk : ∀ g w', St c I F (Cells g vs t :: As) w' → K (.pointer (some ⟨g, 0, none⟩)) w') : oAlloc P t Kp w K :=
  rAlloc vs hv fun w' hm hb _ => hk _ w' (hs.alloc hm hb)
theorem rBuildSS {t e sz by_ : Nat} [h : SliceT P t e sz by_] {z : Value} [hz : ZeroT P e z] {n : Nat} {ps : List (Nat × Value)} (hs : St c I F As w) (cs : List Value) (hsmall : n * sz ≤ 16777216)
    (hf : Instr.fill (fun i => some (i * sz, sz)) ((Array.range (n * sz)).map ((if n * sz = 0 then #[] else z.cells)[· % (if n * sz = 0 then (#[] : Array Value) else z.cells).size]!)) ps = some cs.toArray)
    (hk : ∀ g w', St c I F (Cells g cs e :: As) w' → K (.slice (some ⟨g, 0, none⟩) n n) w') : oBuildS P t n ps Kp w K :=
  rBuildS cs hsmall hf fun w' hm hb _ => hk _ w' (hs.alloc hm hb)

theorem St.ownNil {α : Type} (T : Ty α) (E : Nat) (hs : St c I F As w) : St c I F (OwnSl T E (.slice none 0 0) [] :: As) w :=
  hs.push.wk fun _ _ h => ⟨[], rfl, fun i h => by simp at h, .inl ⟨rfl, rfl, h⟩⟩
/-- a block of cells as a slice of one's own -/
theorem St.toSl {α : Type} {T : Ty α} {E g : Nat} {cs : List Value} {l : List α} (n : Nat) (hs : St c I F (Cells g cs E :: As) w) (us : List (List Value)) (hcs : cs = us.flatten) (hn : n = l.length) (hl : us.length = l.length)
    (hr : ∀ i (h : i < l.length) (h' : i < us.length), T.rep I us[i] l[i]) (hm : l.length ≤ maxLen) : St c I F (OwnSl T E (.slice (some ⟨g, 0, none⟩) n n) l :: As) w := by
  subst hn
  obtain ⟨h, ⟨h1, h2, a, b⟩, e⟩ := hs.own
  have hfl := flatten_len hl hr
  refine ⟨hs.os, hs.tape, hs.output, hs.pers, hs.frame, h, ⟨h1, h2, ⟨us, hl, hr, .inr ⟨g, l.length, cs.toArray, rfl, a, Nat.le_refl _, hm, ?_, ?_⟩⟩, b⟩, e⟩
  · rw [hcs]; simpa using hfl
  · rw [hcs]; simp only [List.toList_toArray]; exact List.take_of_length_le (by omega)
/-- an empty slice that is not nil -/
theorem rBuildS0S {t e sz by_ : Nat} [h : SliceT P t e sz by_] (hs : St c I F As w) {α : Type} (T : Ty α) (hk : ∀ v w', St c I F (OwnSl T e v [] :: As) w' → K v w') : oBuildS P t 0 [] Kp w K :=
  rBuildS0 fun w' hm hb _ => hk _ w' ((hs.alloc hm hb).toSl (l := []) 0 [] rfl rfl rfl (fun i h => by simp at h) (by simp [maxLen]))

theorem exists_list {α : Type} {Q : Nat → α → Prop} : ∀ (n : Nat), (∀ i, i < n → ∃ a, Q i a) → ∃ l : List α, l.length = n ∧ ∀ i (h : i < l.length), Q i l[i] := by
  intro n
  induction n with
  | zero => intro _; exact ⟨[], rfl, fun i h => by simp at h⟩
  | succ n ih =>
    intro h
    obtain ⟨l, hl, hq⟩ := ih (fun i hi => h i (by omega))
    obtain ⟨a, ha⟩ := h n (by omega)
    refine ⟨l ++ [a], by simp [hl], fun i hi => ?_⟩
    by_cases hil : i < l.length
    · rw [List.getElem_append_left hil]; exact hq i hil
    · have : i = l.length := by simp at hi; omega
      subst this
      simp [hl]; exact ha

/-- append onto a slice of one's own -/
theorem rAppS {α : Type} {T : Ty α} {t rt e sz by_ : Nat} {cs : List Bool} [h : SliceT P t e sz by_] {z : Value} [hz : ZeroT P e z] {v : Value} {l : List α} {x : Value} {m : List α}
    (hs : St c I F (OwnSl T e v l :: As) w) (hx : RS T (Rd I F) I x m) (hsz : T.n = sz) (hzs : z.cells.size = sz) (hpos : 0 < sz) (hbytes : (l.length + m.length) * by_ ≤ 140737488355328) (hby : 0 < by_)
    (hk : ∀ v' w', St c I F (OwnSl T e v' (l ++ m) :: As) w' → K v' w') : oBI P .append #[t, t] rt cs [v, x] Kp w K := by
  obtain ⟨hA, ⟨us, h1, h2, h3⟩, hin, hI, upd⟩ := hs.upd
  have hFI := hs.own
  -- the frame has none of the blocks
  have hF : ∀ b, hA b ≠ none → ∀ o, Rd I F b o = none := by
    intro b hb o
    unfold Rd CM.add
    rw [hI b hb o]
    obtain ⟨F', f1, ⟨hA', a', f2, f3⟩, _⟩ := hs.lend
    cases hc : F.cells b o with
    | none => rfl
    | some u =>
      exfalso
      obtain ⟨hh, ⟨k1, k2, kp, kr, kd, rfl⟩, kin, kf⟩ := hs.own
      obtain ⟨us', g1, g2, g3⟩ := kp
      rcases h3 with ⟨_, _, he⟩ | ⟨g, cap, cur, rfl, rfl, _⟩
      · exact hb (he b)
      · rcases g3 with ⟨hv, _⟩ | ⟨g', cap', cur', hv, rfl, _⟩
        · cases hv
        · cases hv
          have hbg := Hp.one_ne.1 hb
          subst hbg
          have := (kf b (fun h0 => by have := (Hp.add_none.1 h0).1; rw [Hp.one_self] at this; cases this)).1
          unfold Hp.cells at hc; rw [this] at hc; cases hc
  have hob : ∀ b ∈ ob v, hA b ≠ none := by
    intro b hb
    rcases h3 with ⟨rfl, _⟩ | ⟨g, cap, cur, rfl, rfl, _⟩
    · simp [ob, Value.ownBlock] at hb
    · simp [ob, Value.ownBlock] at hb; subst hb; rw [Hp.one_self]; simp
  obtain ⟨A, n, c', rfl, hn, hc, hc', hc2, hh⟩ := hx
  -- the source, as rows of cells
  obtain ⟨usM, hM1, hM2⟩ := exists_list (Q := fun i us => ∀ (hi : i < m.length), T.rep I us m[i] ∧ ∀ b o, A = some ⟨b, o, none⟩ → ∀ j (hj : j < us.length), Rd I F b (o + i * T.n + j) = some us[j]) m.length (fun i hi => by
    obtain ⟨b, o, rfl, hh'⟩ := hh (by omega)
    obtain ⟨us, hu, hr⟩ := hh' i hi
    exact ⟨us, fun _ => ⟨hr, fun b' o' he j hj => by cases he; exact hu j hj⟩⟩)
  have hxr : RSl (Ty.raw sz) (hide w (ob v ++ [])) (.slice A n c') usM := by
    refine ⟨A, n, c', rfl, by omega, hc, hc', hc2, fun h0 => ?_⟩
    obtain ⟨b, o, rfl, hh'⟩ := hh h0
    refine ⟨b, o, rfl, fun i hi => ⟨usM[i], fun j hj => ?_, rfl, ?_, T.one (hM2 i hi (by omega)).1⟩⟩
    · have h := (hM2 i hi (by omega)).2 b o rfl j hj
      have hnb : b ∉ ob v ++ [] := by
        intro hb; simp at hb
        rw [hF b (hob b hb)] at h; cases h
      unfold hide; rw [if_neg hnb]
      have := hs.rdCell h
      rw [hsz] at this
      exact this
    · rw [← hsz]; exact T.len (hM2 i hi (by omega)).1
  have hown : Own (Ty.raw sz) 0 w [] e v us := by
    refine ⟨us, rfl, fun i hi _ => ⟨rfl, by rw [← hsz]; exact T.len (h2 i (by omega) hi), T.one (h2 i (by omega) hi)⟩, ?_⟩
    have hfl := flatten_len h1 h2
    refine ⟨by rw [hfl, h1, hsz]; rfl, ?_⟩
    rcases h3 with ⟨rfl, rfl, _⟩ | ⟨g, cap, cur, rfl, rfl, hc1, hcm, hcs, ht⟩
    · exact .inl ⟨rfl, by simpa using h1⟩
    · exact .inr ⟨g, cap, cur, by rw [h1], Nat.zero_le _, Hp.one_isIn.1 hin, by omega, hcm, by rw [hcs, hsz]; rfl, by rw [h1, ← ht, hsz]; rfl⟩
  refine rAppend (T := Ty.raw sz) hown hxr rfl hzs hpos (by rw [h1, hM1]; exact hbytes) hby (Nat.zero_le _) ?_
  intro v' w' hown' hm hle hnew
  refine hk v' w' ?_
  obtain ⟨us', g1, g2, g3, g4⟩ := hown'
  have e : us' = us ++ usM := by
    refine List.ext_getElem g1 fun i hi hi' => (g2 i hi' hi).1
  subst e
  have hlen : (us ++ usM).length = (l ++ m).length := by simp [h1, hM1]
  have hreps : ∀ i (h : i < (l ++ m).length) (h' : i < (us ++ usM).length), T.rep I (us ++ usM)[i] (l ++ m)[i] := by
    intro i hi hi'
    by_cases hil : i < l.length
    · rw [List.getElem_append_left (by omega), List.getElem_append_left hil]; exact h2 i hil (by omega)
    · rw [List.getElem_append_right (by omega), List.getElem_append_right (by omega)]
      have := (hM2 (i - l.length) (by simp at hi; omega) (by simp at hi; omega)).1
      simp only [h1]; exact this
  rcases g4 with ⟨rfl, hn0⟩ | ⟨g, cap, cur, rfl, _, hg, hc1, hcm, hcs, ht⟩
  · have hnil : l ++ m = [] := List.eq_nil_of_length_eq_zero (by omega)
    exact upd (OwnSl T e (.slice none 0 0) (l ++ m)) w' (ob v) (fun _ => none) hm hob (fun b x hx => by cases hx) (fun b hb => absurd rfl hb) ⟨us ++ usM, hlen, hreps, .inl ⟨rfl, hnil, fun _ => rfl⟩⟩
  · refine upd (OwnSl T e _ (l ++ m)) w' (ob v) (Hp.one g (.cells cur e (0, 0))) hm hob (Hp.one_isIn.2 hg) (fun b hb => ?_) ⟨us ++ usM, hlen, hreps, .inr ⟨g, cap, cur, by rw [hlen], rfl, by omega, hcm, by rw [hcs, hsz]; rfl, by rw [← hlen, ← ht, hsz]; rfl⟩⟩
    have hbg := Hp.one_ne.1 hb
    subst hbg
    rcases hnew b (by simp [ob, Value.ownBlock]) with h' | h'
    · exact .inl (hob b h')
    · exact .inr h'

theorem St.base (hs : St c I F As w) (hF : ∀ b x, c.heap[b]? = some x → F b = some x) : Mod [] c w := by
  have hsz : c.heap.size ≤ w.heap.size := by
    rcases Nat.eq_zero_or_pos c.heap.size with h0 | h0
    · omega
    · have hl : c.heap.size - 1 < c.heap.size := by omega
      have := hs.frame _ _ (hF (c.heap.size - 1) _ (Array.getElem?_eq_getElem hl))
      have := (Array.getElem?_eq_some_iff.1 this).1
      omega
  refine ⟨hs.os, hs.tape, hs.output, hsz, fun k hk _ => ?_⟩
  rw [hs.frame _ _ (hF k _ (Array.getElem?_eq_getElem hk)), Array.getElem?_eq_getElem hk]
/-- at the law's begin: all that stands lasts -/
theorem St.start (w : World) : St w (hide w []) (fun b => w.heap[b]?) [] w :=
  ⟨rfl, rfl, rfl, fun b o v h => hide_cell h, fun b x h => h, fun _ => none, fun _ => rfl, fun b x h => (by cases h), fun b h => absurd rfl h⟩
end
end Go.Proofs.YtlbihkgfejgefaaDoor.L
