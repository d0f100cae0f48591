/- Lib 11: what is owned and what lasts: a state 'St' (what lasts: cells I that never turn; the frame F: blocks that stay; what is owned: a list of parts, each in blocks of its own). -/
import Derived.Test.YtlbihkgfejgefaaDoorL10
namespace Go.Proofs.YtlbihkgfejgefaaDoor.L
open Go Go.RowKit
set_option linter.unusedVariables false

abbrev Hp := Nat → Option Obj
def Hp.one (g : Nat) (o : Obj) : Hp := fun b => if b = g then some o else none
def Hp.add (h k : Hp) : Hp := fun b => match h b with | some o => some o | none => k b
def Hp.apart (h k : Hp) : Prop := ∀ b, h b = none ∨ k b = none
def Hp.cells (h : Hp) : CM := fun b o => match h b with | some (.cells c _ _) => c[o]? | _ => none
def Hp.isIn (h : Hp) (w : World) : Prop := ∀ b x, h b = some x → w.heap[b]? = some x
def CM.add (I J : CM) : CM := fun b o => match I b o with | some v => some v | none => J b o
/-- what can be read during a call: what lasts, and the frame -/
def Rd (I : CM) (F : Hp) : CM := CM.add I F.cells

structure HP where
  p : CM → Hp → Prop
  mono : ∀ {I J : CM} {h : Hp}, CM.le I J → p I h → p J h

def star : List HP → CM → Hp → Prop
  | [], _, h => ∀ b, h b = none
  | A :: l, I, h => ∃ h1 h2, A.p I h1 ∧ star l I h2 ∧ Hp.apart h1 h2 ∧ h = Hp.add h1 h2

structure St (c : World) (I : CM) (F : Hp) (As : List HP) (w : World) : Prop where
  os : w.os = c.os
  tape : w.tape = c.tape
  output : w.output = c.output
  pers : ∀ b o v, I b o = some v → w.cell? ⟨b, o, none⟩ = some v
  frame : F.isIn w
  own : ∃ h, star As I h ∧ h.isIn w ∧ (∀ b, h b ≠ none → F b = none ∧ ∀ o, I b o = none)

/-- what lasts has grown, outside the frame -/
structure Gr (F : Hp) (I J : CM) : Prop where
  le : CM.le I J
  new : ∀ b o v, J b o = some v → I b o = some v ∨ F b = none
theorem Gr.refl (F : Hp) (I : CM) : Gr F I I := ⟨fun _ _ _ h => h, fun _ _ _ h => .inl h⟩
theorem Gr.trans {F : Hp} {I J K : CM} (h : Gr F I J) (k : Gr F J K) : Gr F I K :=
  ⟨h.le.trans k.le, fun b o v hv => by rcases k.new b o v hv with h1 | h1; exact h.new b o v h1; exact .inr h1⟩

theorem CM.add_left (I J : CM) : CM.le I (CM.add I J) := fun b o v h => by simp only [CM.add, h]
theorem CM.le_rd (I : CM) (F : Hp) : CM.le I (Rd I F) := CM.add_left _ _
theorem Gr.rd {F : Hp} {I J : CM} (h : Gr F I J) : CM.le (Rd I F) (Rd J F) := by
  intro b o v hv
  unfold Rd CM.add at hv ⊢
  cases hI : I b o with
  | some x => rw [hI] at hv; rw [h.le _ _ _ hI]; exact hv
  | none =>
    rw [hI] at hv
    cases hJ : J b o with
    | some y =>
      rcases h.new b o y hJ with h1 | h1
      · rw [hI] at h1; cases h1
      · unfold Hp.cells at hv; rw [h1] at hv; cases hv
    | none => exact hv

theorem star.mono {I J : CM} (hle : CM.le I J) : ∀ {As : List HP} {h : Hp}, star As I h → star As J h
  | [], _, h => h
  | A :: l, _, ⟨h1, h2, a, b, c, d⟩ => ⟨h1, h2, A.mono hle a, star.mono hle b, c, d⟩

theorem Hp.add_comm {h k : Hp} (ha : Hp.apart h k) : Hp.add h k = Hp.add k h := by
  funext b; unfold Hp.add
  cases h1 : h b <;> cases h2 : k b <;> try rfl
  rcases ha b with h' | h' <;> simp_all
theorem Hp.add_assoc (h k l : Hp) : Hp.add (Hp.add h k) l = Hp.add h (Hp.add k l) := by
  funext b; unfold Hp.add; cases h b <;> rfl
theorem Hp.apart.symm {h k : Hp} (ha : Hp.apart h k) : Hp.apart k h := fun b => (ha b).symm
theorem Hp.apart_add {h k l : Hp} : Hp.apart h (Hp.add k l) ↔ Hp.apart h k ∧ Hp.apart h l := by
  unfold Hp.apart Hp.add
  constructor
  · intro ha
    refine ⟨fun b => ?_, fun b => ?_⟩
    · rcases ha b with h1 | h1
      · exact .inl h1
      · cases hk : k b <;> simp_all
    · rcases ha b with h1 | h1
      · exact .inl h1
      · cases hk : k b <;> simp_all
  · rintro ⟨h1, h2⟩ b
    rcases h1 b with a | a
    · exact .inl a
    · rcases h2 b with c | c
      · exact .inl c
      · right; rw [a]; exact c
theorem Hp.add_none {h k : Hp} {b : Nat} : Hp.add h k b = none ↔ h b = none ∧ k b = none := by
  unfold Hp.add; cases h b <;> simp
theorem Hp.isIn_add {h k : Hp} {w : World} (h1 : h.isIn w) (h2 : k.isIn w) : (Hp.add h k).isIn w := by
  intro b x hx
  unfold Hp.add at hx
  split at hx
  · rename_i o ho; cases hx; exact h1 _ _ ho
  · exact h2 _ _ hx
theorem Hp.isIn_left {h k : Hp} {w : World} (h1 : (Hp.add h k).isIn w) : h.isIn w := fun b x hx => h1 b x (by unfold Hp.add; rw [hx])
theorem Hp.isIn_right {h k : Hp} {w : World} (ha : Hp.apart h k) (h1 : (Hp.add h k).isIn w) : k.isIn w := by
  rw [Hp.add_comm ha] at h1; exact Hp.isIn_left h1

theorem star.swap {A B : HP} {l : List HP} {I : CM} {h : Hp} (hs : star (A :: B :: l) I h) : star (B :: A :: l) I h := by
  obtain ⟨h1, h2, a, ⟨h3, h4, b, c, d, rfl⟩, e, rfl⟩ := hs
  obtain ⟨e1, e2⟩ := Hp.apart_add.1 e
  refine ⟨h3, Hp.add h1 h4, b, ⟨h1, h4, a, c, e2, rfl⟩, Hp.apart_add.2 ⟨e1.symm, d⟩, ?_⟩
  rw [← Hp.add_assoc, ← Hp.add_assoc, Hp.add_comm e1]

theorem star.tail {A : HP} {l l' : List HP} {I : CM} (hl : ∀ h, star l I h → star l' I h) {h : Hp} (hs : star (A :: l) I h) : star (A :: l') I h := by
  obtain ⟨h1, h2, a, b, c, d⟩ := hs
  exact ⟨h1, h2, a, hl _ b, c, d⟩

section
variable {c : World} {I : CM} {F : Hp} {As : List HP} {w : World} {A B C D E' G H' : HP}
theorem St.map {Bs : List HP} (hs : St c I F As w) (hm : ∀ h, star As I h → star Bs I h) : St c I F Bs w := by
  obtain ⟨h, a, b⟩ := hs.own
  exact ⟨hs.os, hs.tape, hs.output, hs.pers, hs.frame, h, hm h a, b⟩
theorem St.p1 (hs : St c I F (A :: B :: As) w) : St c I F (B :: A :: As) w := hs.map fun _ => star.swap
theorem St.p2 (hs : St c I F (A :: B :: C :: As) w) : St c I F (C :: A :: B :: As) w := (hs.map fun _ => star.tail fun _ => star.swap).p1
theorem St.p3 (hs : St c I F (A :: B :: C :: D :: As) w) : St c I F (D :: A :: B :: C :: As) w := (hs.map fun _ => star.tail fun _ => star.tail fun _ => star.swap).p2
theorem St.p4 (hs : St c I F (A :: B :: C :: D :: E' :: As) w) : St c I F (E' :: A :: B :: C :: D :: As) w := (hs.map fun _ => star.tail fun _ => star.tail fun _ => star.tail fun _ => star.swap).p3
theorem St.p5 (hs : St c I F (A :: B :: C :: D :: E' :: G :: As) w) : St c I F (G :: A :: B :: C :: D :: E' :: As) w := (hs.map fun _ => star.tail fun _ => star.tail fun _ => star.tail fun _ => star.tail fun _ => star.swap).p4
theorem St.p6 (hs : St c I F (A :: B :: C :: D :: E' :: G :: H' :: As) w) : St c I F (H' :: A :: B :: C :: D :: E' :: G :: As) w := (hs.map fun _ => star.tail fun _ => star.tail fun _ => star.tail fun _ => star.tail fun _ => star.tail fun _ => star.swap).p5

/-- what was owned is let go -/
theorem St.drop (hs : St c I F (A :: As) w) : St c I F As w := by
  obtain ⟨h, ⟨h1, h2, a, b, d, rfl⟩, e, f⟩ := hs.own
  exact ⟨hs.os, hs.tape, hs.output, hs.pers, hs.frame, h2, b, Hp.isIn_right d e, fun b hb => f b (fun h0 => hb (Hp.add_none.1 h0).2)⟩

/-- an equal or weaker first part -/
theorem St.wk (hs : St c I F (A :: As) w) (hm : ∀ I h, A.p I h → B.p I h) : St c I F (B :: As) w :=
  hs.map fun _ ⟨h1, h2, a, b⟩ => ⟨h1, h2, hm _ _ a, b⟩

theorem St.lt {I : CM} (hs : St c I F As w) {b o : Nat} {v : Value} (h : I b o = some v) : b < w.heap.size := World.block_lt_of_cell? w ⟨b, o, none⟩ (hs.pers b o v h)

/-- the world goes on, and the first part with it -/
theorem St.upd (hs : St c I F (A :: As) w) : ∃ hA, A.p I hA ∧ hA.isIn w ∧ (∀ b, hA b ≠ none → ∀ o, I b o = none) ∧
    ∀ (B : HP) (w' : World) (T : List Nat) (hB : Hp), Mod T w w' → (∀ b ∈ T, hA b ≠ none) → hB.isIn w' → (∀ b, hB b ≠ none → hA b ≠ none ∨ w.heap.size ≤ b) → B.p I hB → St c I F (B :: As) w' := by
  obtain ⟨h, ⟨h1, h2, a, b, d, rfl⟩, e, f⟩ := hs.own
  refine ⟨h1, a, Hp.isIn_left e, fun b hb => (f b (fun h0 => hb (Hp.add_none.1 h0).1)).2, fun B w' T hB hm hT hi hn hp => ?_⟩
  have blk : ∀ k x, w.heap[k]? = some x → h1 k = none → w'.heap[k]? = some x := by
    intro k x hx h1k
    have hlt : k < w.heap.size := (Array.getElem?_eq_some_iff.1 hx).1
    rw [hm.block k hlt (fun hk => hT k hk h1k)]; exact hx
  have hcell : ∀ b o v, I b o = some v → h1 b = none := by
    intro b o v hv
    cases h1b : h1 b with
    | none => rfl
    | some x =>
      have := (f b (fun h0 => by have := (Hp.add_none.1 h0).1; rw [h1b] at this; cases this)).2 o
      rw [hv] at this; cases this
  refine ⟨hm.os.trans hs.os, hm.tape.trans hs.tape, hm.output.trans hs.output, fun b o v hv => ?_, fun b x hx => ?_, Hp.add hB h2, ⟨hB, h2, hp, b, ?_, rfl⟩, ?_, ?_⟩
  · have h0 := hs.pers b o v hv
    have hlt := World.block_lt_of_cell? w ⟨b, o, none⟩ h0
    rw [← h0]
    exact World.cell?_of_block (hm.block b hlt (fun hk => hT b hk (hcell b o v hv)))
  · refine blk b x (hs.frame b x hx) ?_
    cases h1b : h1 b with
    | none => rfl
    | some y =>
      have := (f b (fun h0 => by have := (Hp.add_none.1 h0).1; rw [h1b] at this; cases this)).1
      rw [hx] at this; cases this
  · intro k
    cases hBk : hB k with
    | none => exact .inl rfl
    | some x =>
      right
      rcases hn k (by rw [hBk]; simp) with h' | h'
      · rcases d k with h'' | h''
        · exact absurd h'' h'
        · exact h''
      · cases h2k : h2 k with
        | none => rfl
        | some y =>
          have := (Array.getElem?_eq_some_iff.1 (Hp.isIn_right d e k y h2k)).1
          omega
  · refine Hp.isIn_add hi (fun k x hx => ?_)
    refine blk k x (Hp.isIn_right d e k x hx) ?_
    rcases d k with h' | h'
    · exact h'
    · rw [hx] at h'; cases h'
  · intro k hk
    by_cases hBk : hB k = none
    · refine f k (fun h0 => hk (Hp.add_none.2 ⟨hBk, (Hp.add_none.1 h0).2⟩))
    · rcases hn k hBk with h' | h'
      · exact f k (fun h0 => h' (Hp.add_none.1 h0).1)
      · refine ⟨?_, fun o => ?_⟩
        · cases hF : F k with
          | none => rfl
          | some x => have := (Array.getElem?_eq_some_iff.1 (hs.frame k x hF)).1; omega
        · cases hI : I k o with
          | none => rfl
          | some v => have := hs.lt hI; omega

def HP.emp : HP := ⟨fun _ h => ∀ b, h b = none, fun _ h => h⟩
theorem St.push (hs : St c I F As w) : St c I F (HP.emp :: As) w :=
  hs.map fun h hh => ⟨fun _ => none, h, fun _ => rfl, hh, fun b => .inl rfl, by funext b; rfl⟩

theorem St.same (hs : St c I F As w) {w' : World} (hm : Mod [] w w') : St c I F As w' := by
  obtain ⟨hA, a, b, _, k⟩ := hs.push.upd
  exact (k HP.emp w' [] hA hm (by simp) (fun b x hx => by rw [a b] at hx; cases hx) (fun b hb => absurd (a b) hb) a).drop
theorem St.drew (hs : St c I F As w) : St c I F As w.drew := hs.same (Mod.refl [] w).drew

/-- a block of cells of one's own -/
def Cells (g : Nat) (cs : List Value) (E : Nat) : HP := ⟨fun _ h => h = Hp.one g (.cells cs.toArray E (0, 0)), fun _ h => h⟩
theorem Hp.one_self (g : Nat) (o : Obj) : Hp.one g o g = some o := by simp [Hp.one]
theorem Hp.one_ne {g b : Nat} {o : Obj} : Hp.one g o b ≠ none ↔ b = g := by unfold Hp.one; split <;> simp_all
theorem Hp.one_isIn {g : Nat} {o : Obj} {w : World} : (Hp.one g o).isIn w ↔ w.heap[g]? = some o := by
  constructor
  · intro h; exact h g o (Hp.one_self g o)
  · intro h b x hx; unfold Hp.one at hx; split at hx
    · rename_i e; subst e; rw [← hx]; exact h
    · cases hx

theorem St.alloc (hs : St c I F As w) {w' : World} {cs : List Value} {E : Nat} (hm : Mod [] w w') (hb : Blk w' w.heap.size cs E) : St c I F (Cells w.heap.size cs E :: As) w' := by
  obtain ⟨hA, a, b, _, k⟩ := hs.push.upd
  exact k (Cells _ cs E) w' [] (Hp.one w.heap.size (.cells cs.toArray E (0, 0))) hm (by simp) (Hp.one_isIn.2 hb) (fun b hb => .inr (by rw [Hp.one_ne.1 hb]; exact Nat.le_refl _)) rfl

theorem St.blk {g : Nat} {cs : List Value} {E : Nat} (hs : St c I F (Cells g cs E :: As) w) : Blk w g cs E := by
  obtain ⟨hA, a, b, _⟩ := hs.upd
  rw [show hA = _ from a] at b
  exact Hp.one_isIn.1 b
theorem St.cell {g : Nat} {cs : List Value} {E : Nat} (hs : St c I F (Cells g cs E :: As) w) (o : Nat) : w.cell? ⟨g, o, none⟩ = cs[o]? := hs.blk.cell o

theorem St.setBlk {g : Nat} {cs cs' : List Value} {E : Nat} (hs : St c I F (Cells g cs E :: As) w) {w' : World} (hm : Mod [g] w w') (hb : Blk w' g cs' E) : St c I F (Cells g cs' E :: As) w' := by
  obtain ⟨hA, a, b, _, k⟩ := hs.upd
  have a' : hA = Hp.one g (.cells cs.toArray E (0, 0)) := a
  subst a'
  exact k (Cells g cs' E) w' [g] (Hp.one g (.cells cs'.toArray E (0, 0))) hm (by intro b hb'; simp at hb'; subst hb'; rw [Hp.one_self]; simp) (Hp.one_isIn.2 hb) (fun b hb => .inl (Hp.one_ne.2 (Hp.one_ne.1 hb))) rfl

/-- to what lasts: the first part's cells never turn any more -/
theorem St.last (hs : St c I F (A :: As) w) : ∃ hA, A.p I hA ∧ Gr F I (CM.add I hA.cells) ∧ (∀ b o v, hA.cells b o = some v → CM.add I hA.cells b o = some v) ∧ St c (CM.add I hA.cells) F As w := by
  obtain ⟨h, ⟨h1, h2, a, b, d, rfl⟩, e, f⟩ := hs.own
  have hin := Hp.isIn_left e
  have hcells : ∀ b o v, h1.cells b o = some v → w.cell? ⟨b, o, none⟩ = some v ∧ h1 b ≠ none := by
    intro b o v hv
    unfold Hp.cells at hv
    split at hv
    · rename_i c' t' f' hh
      have := hin b _ hh
      exact ⟨by unfold World.cell?; rw [this]; simpa using hv, by rw [hh]; simp⟩
    · cases hv
  refine ⟨h1, a, ⟨CM.add_left _ _, fun b o v hv => ?_⟩, fun b o v hv => ?_, ⟨hs.os, hs.tape, hs.output, fun b o v hv => ?_, hs.frame, h2, star.mono (CM.add_left _ _) b, Hp.isIn_right d e, fun k hk => ?_⟩⟩
  · unfold CM.add at hv
    split at hv
    · rename_i x hx; cases hv; exact .inl hx
    · exact .inr (f b (fun h0 => (hcells b o v hv).2 (Hp.add_none.1 h0).1)).1
  · have := (hcells b o v hv).2
    have hI := (f b (fun h0 => this (Hp.add_none.1 h0).1)).2 o
    simp only [CM.add, hI]; exact hv
  · unfold CM.add at hv
    split at hv
    · rename_i x hx; cases hv; exact hs.pers b o _ hx
    · exact (hcells b o v hv).1
  · have hk' := f k (fun h0 => hk (Hp.add_none.1 h0).2)
    refine ⟨hk'.1, fun o => ?_⟩
    unfold CM.add
    rw [hk'.2 o]
    cases hc : h1.cells k o with
    | none => rfl
    | some v =>
      have := (hcells k o v hc).2
      rcases d k with h' | h'
      · exact absurd h' this
      · exact absurd h' hk

theorem St.lastCells {g : Nat} {cs : List Value} {E : Nat} (hs : St c I F (Cells g cs E :: As) w) : ∃ J, Gr F I J ∧ (∀ o v, cs[o]? = some v → J g o = some v) ∧ St c J F As w := by
  obtain ⟨hA, a, b, e, f⟩ := hs.last
  have a' : hA = Hp.one g (.cells cs.toArray E (0, 0)) := a
  subst a'
  refine ⟨_, b, fun o v hv => e g o v ?_, f⟩
  unfold Hp.cells; rw [Hp.one_self]; simpa using hv

/-- the first part lent out: it stays as it is while the others go on -/
theorem St.lend (hs : St c I F (A :: As) w) : ∃ F', (∀ b x, F b = some x → F' b = some x) ∧ (∃ hA, A.p I hA ∧ (∀ b x, hA b = some x → F' b = some x) ∧ (∀ b, hA b ≠ none → ∀ o, I b o = none)) ∧ St c I F' As w ∧
    (∀ J Bs w', Gr F' I J → St c J F' Bs w' → Gr F I J ∧ St c J F (A :: Bs) w') := by
  obtain ⟨h, ⟨h1, h2, a, b, d, rfl⟩, e, f⟩ := hs.own
  have hap : ∀ b, h1 b ≠ none → F b = none := fun b hb => (f b (fun h0 => hb (Hp.add_none.1 h0).1)).1
  refine ⟨Hp.add F h1, fun b x hx => by simp only [Hp.add, hx], ⟨h1, a, fun b x hx => ?_, fun b hb => (f b (fun h0 => hb (Hp.add_none.1 h0).1)).2⟩, ⟨hs.os, hs.tape, hs.output, hs.pers, Hp.isIn_add hs.frame (Hp.isIn_left e), h2, b, Hp.isIn_right d e, fun k hk => ?_⟩, fun J Bs w' hle hs' => ?_⟩
  · have := hap b (by rw [hx]; simp)
    simp only [Hp.add, this]; exact hx
  · have := f k (fun h0 => hk (Hp.add_none.1 h0).2)
    refine ⟨Hp.add_none.2 ⟨this.1, ?_⟩, this.2⟩
    rcases d k with h' | h'
    · exact h'
    · exact absurd h' hk
  · obtain ⟨k, k1, k2, k3⟩ := hs'.own
    have hF' : Hp.apart F h1 := fun b => by
      by_cases hb : h1 b = none
      · exact .inr hb
      · exact .inl (hap b hb)
    have h1in := Hp.isIn_right hF' hs'.frame
    have hJ : ∀ b, h1 b ≠ none → ∀ o, J b o = none := by
      intro b hb o
      cases hv : J b o with
      | none => rfl
      | some v =>
        exfalso
        rcases hle.new b o v hv with h' | h'
        · rw [(f b (fun h0 => hb (Hp.add_none.1 h0).1)).2 o] at h'; cases h'
        · exact hb (Hp.add_none.1 h').2
    refine ⟨⟨hle.le, fun b o v hv => ?_⟩, hs'.os, hs'.tape, hs'.output, hs'.pers, Hp.isIn_left hs'.frame, Hp.add h1 k, ⟨h1, k, A.mono hle.le a, k1, fun b => ?_, rfl⟩, Hp.isIn_add h1in k2, fun b hb => ?_⟩
    · rcases hle.new b o v hv with h' | h'
      · exact .inl h'
      · exact .inr (Hp.add_none.1 h').1
    · by_cases hb : k b = none
      · exact .inr hb
      · exact .inl (Hp.add_none.1 (k3 b hb).1).2
    · by_cases h1b : h1 b = none
      · have hkb : k b ≠ none := fun h0 => hb (Hp.add_none.2 ⟨h1b, h0⟩)
        exact ⟨(Hp.add_none.1 (k3 b hkb).1).1, (k3 b hkb).2⟩
      · exact ⟨hap b h1b, hJ b h1b⟩
end
end Go.Proofs.YtlbihkgfejgefaaDoor.L
