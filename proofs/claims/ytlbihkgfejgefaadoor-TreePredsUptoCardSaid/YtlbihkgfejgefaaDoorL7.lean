/- Lib 7: memory: what turned between two worlds, what a value reads as. -/
import Derived.Test.YtlbihkgfejgefaaDoorL6
import Derived.Below
import Derived.Laws.OwnMore
namespace Go.Proofs.YtlbihkgfejgefaaDoor.L
open Go Go.RowKit
set_option linter.unusedVariables false

abbrev CM := Nat → Nat → Option Value
def CM.le (I J : CM) : Prop := ∀ b o v, I b o = some v → J b o = some v
theorem CM.le.refl (I : CM) : CM.le I I := fun _ _ _ h => h
theorem CM.le.trans {I J K : CM} (h : CM.le I J) (h' : CM.le J K) : CM.le I K := fun b o v hv => h' b o v (h b o v hv)

/-- the cells of a world but those of the blocks S -/
def hide (w : World) (S : List Nat) : CM := fun b o => if b ∈ S then none else w.cell? ⟨b, o, none⟩

theorem hide_cell {w : World} {S : List Nat} {b o : Nat} {v : Value} (h : hide w S b o = some v) : w.cell? ⟨b, o, none⟩ = some v := by
  unfold hide at h; split at h
  · cases h
  · exact h

/-- of the blocks that stood in w only those of T may have turned -/
structure Mod (T : List Nat) (w w' : World) : Prop where
  os : w'.os = w.os
  tape : w'.tape = w.tape
  output : w'.output = w.output
  size : w.heap.size ≤ w'.heap.size
  block : ∀ k, k < w.heap.size → k ∉ T → w'.heap[k]? = w.heap[k]?

theorem Mod.refl (T : List Nat) (w : World) : Mod T w w := ⟨rfl, rfl, rfl, Nat.le_refl _, fun _ _ _ => rfl⟩
theorem Mod.mono {T T' : List Nat} {w w' : World} (h : Mod T w w') (hT : ∀ k ∈ T, k ∈ T') : Mod T' w w' :=
  ⟨h.os, h.tape, h.output, h.size, fun k hk hn => h.block k hk (fun hm => hn (hT k hm))⟩
theorem Mod.trans {T : List Nat} {a b c : World} (h : Mod T a b) (k : Mod T b c) : Mod T a c :=
  ⟨k.os.trans h.os, k.tape.trans h.tape, k.output.trans h.output, Nat.le_trans h.size k.size, fun i hi hn => (k.block i (Nat.lt_of_lt_of_le hi h.size) hn).trans (h.block i hi hn)⟩
/-- what is written to later blocks alone is nothing to the first world -/
theorem Mod.trans_new {T T' : List Nat} {a b c : World} (h : Mod T a b) (k : Mod T' b c) (hT : ∀ x ∈ T', x ∈ T ∨ a.heap.size ≤ x) : Mod T a c :=
  ⟨k.os.trans h.os, k.tape.trans h.tape, k.output.trans h.output, Nat.le_trans h.size k.size, fun i hi hn =>
    (k.block i (Nat.lt_of_lt_of_le hi h.size) (fun hm => by rcases hT i hm with h1 | h1; exact hn h1; omega)).trans (h.block i hi hn)⟩
theorem Mod.nil {T : List Nat} {w w' : World} (h : Mod [] w w') : Mod T w w' := h.mono (fun _ h => by cases h)
theorem Mod.drew {T : List Nat} {a w : World} (h : Mod T a w) : Mod T a w.drew := ⟨h.os, h.tape, h.output, h.size, h.block⟩
theorem Mod.of_same {T : List Nat} {w w' : World} (h : Same w w') : Mod T w w' := ⟨h.os, h.tape, h.output, by rw [h.heap]; exact Nat.le_refl _, fun k _ _ => by rw [h.heap]⟩
theorem Mod.alloc (T : List Nat) (w : World) (o : Obj) : Mod T w (w.alloc o) :=
  ⟨rfl, rfl, rfl, by simp, fun k hk _ => Below.heap_alloc w o k hk⟩
theorem Mod.setCell {T : List Nat} (w : World) {p : Addr} (hp : p.block ∈ T) (u : Value) : Mod T w (w.setCell p u) :=
  ⟨rfl, rfl, rfl, by simp [World.setCell], fun k _ hn => Below.heap_setCell _ _ _ _ (fun e => hn (e ▸ hp))⟩
theorem Mod.grown {w w' : World} {row : Option Nat} {T : List Nat} (hg : w.grownBy w' row) (hr : ∀ k, row = some k → k ∈ T) : Mod T w w' :=
  ⟨hg.os, hg.tape, hg.output, hg.size, fun k hk hn => hg.block k hk (fun e => hn (hr k e.symm))⟩
theorem Mod.below {w w' : World} (h : Mod [] w w') : Below w.heap.size w w' := ⟨h.os, h.tape, h.output, h.size, fun k hk => h.block k hk (by simp)⟩
theorem Mod.of_below {w w' : World} (h : Below w.heap.size w w') : Mod [] w w' := ⟨h.os, h.tape, h.output, h.size, fun k hk _ => h.block k hk⟩

theorem hide_le {T S : List Nat} {w w' : World} (h : Mod T w w') (hT : ∀ k ∈ T, k ∈ S) : CM.le (hide w S) (hide w' S) := by
  intro b o v hv
  unfold hide at hv ⊢
  split at hv
  · cases hv
  · rename_i hb
    rw [if_neg hb]
    have hlt := World.block_lt_of_cell? w ⟨b, o, none⟩ hv
    rw [← hv]
    exact World.cell?_of_block (h.block b hlt (fun hm => hb (hT b hm)))
/-- one more block, that did not stand yet, is hidden -/
theorem hide_le_new {T S S' : List Nat} {w w' : World} (h : Mod T w w') (hT : ∀ k ∈ T, k ∈ S) (hS : ∀ k ∈ S', k ∈ S ∨ w.heap.size ≤ k) : CM.le (hide w S) (hide w' S') := by
  intro b o v hv
  have hv' := hide_cell hv
  have hlt := World.block_lt_of_cell? w ⟨b, o, none⟩ hv'
  simp only at hlt
  unfold hide at hv ⊢
  split at hv
  · cases hv
  · rename_i hb
    rw [if_neg (fun hm => by rcases hS b hm with h1 | h1; exact hb h1; omega)]
    rw [← hv]
    exact World.cell?_of_block (h.block b hlt (fun hm => hb (hT b hm)))
theorem hide_less {S S' : List Nat} {w : World} (hS : ∀ k ∈ S', k ∈ S) : CM.le (hide w S) (hide w S') := by
  intro b o v hv
  unfold hide at hv ⊢
  split at hv
  · cases hv
  · rename_i hb; rw [if_neg (fun hm => hb (hS b hm))]; exact hv

/-- a block of cells known whole, not frozen -/
def Blk (w : World) (g : Nat) (cs : List Value) (E : Nat) : Prop := w.heap[g]? = some (.cells cs.toArray E (0, 0))
theorem Blk.lt {w : World} {g : Nat} {cs : List Value} {E : Nat} (h : Blk w g cs E) : g < w.heap.size := (Array.getElem?_eq_some_iff.1 h).1
theorem Blk.mod {T : List Nat} {w w' : World} {g : Nat} {cs : List Value} {E : Nat} (h : Blk w g cs E) (hm : Mod T w w') (hg : g ∉ T) : Blk w' g cs E := by
  unfold Blk; rw [hm.block g h.lt hg]; exact h
theorem Blk.new (w : World) (cs : List Value) (E : Nat) : Blk (w.alloc (.cells cs.toArray E)) w.heap.size cs E := by
  unfold Blk World.alloc; simp
theorem Blk.cell {w : World} {g : Nat} {cs : List Value} {E : Nat} (h : Blk w g cs E) (o : Nat) : w.cell? ⟨g, o, none⟩ = cs[o]? := by
  unfold Blk at h; unfold World.cell?; rw [h]; simp
theorem Blk.free {w : World} {g : Nat} {cs : List Value} {E : Nat} (h : Blk w g cs E) (o : Nat) : w.frozen? ⟨g, o, none⟩ = false := by
  unfold Blk at h; unfold World.frozen?; rw [h]; simp
theorem Blk.set {w : World} {g : Nat} {cs : List Value} {E : Nat} (h : Blk w g cs E) (o : Nat) (u : Value) : Blk (w.setCell ⟨g, o, none⟩ u) g (cs.set o u) E := by
  unfold Blk at h ⊢
  simp only [World.setCell, Array.getElem?_modify, h, if_true, Option.map_some]
  simp

/-! ### what values read as -/
structure Ty (α : Type) where
  n : Nat
  rep : CM → List Value → α → Prop
  len : ∀ {I us a}, rep I us a → us.length = n
  mono : ∀ {I J us a}, CM.le I J → rep I us a → rep J us a
  one : ∀ {I us a}, rep I us a → ∀ u ∈ us, u.oneCell' = true

def Ty.int : Ty Int where
  n := 1
  rep _ us a := us = [.int .i64 a] ∧ -9223372036854775808 ≤ a ∧ a ≤ 9223372036854775807
  len h := by rw [h.1]; rfl
  mono _ h := h
  one h u hu := by rw [h.1] at hu; simp at hu; subst hu; rfl

/-- texts: at most 2^47 bytes -/
def Ty.str : Ty ByteArray where
  n := 1
  rep _ us a := us = [.string a] ∧ a.size ≤ 140737488355328
  len h := by rw [h.1]; rfl
  mono _ h := h
  one h u hu := by rw [h.1] at hu; simp at hu; subst hu; rfl

def Ty.bool : Ty Bool where
  n := 1
  rep _ us a := us = [.bool a]
  len h := by rw [h]; rfl
  mono _ h := h
  one h u hu := by rw [h] at hu; simp at hu; subst hu; rfl

@[simp] theorem Ty.int_n : Ty.int.n = 1 := rfl
@[simp] theorem Ty.str_n : Ty.str.n = 1 := rfl
@[simp] theorem Ty.bool_n : Ty.bool.n = 1 := rfl

/-- a slice reads as a list -/
def RSl {α : Type} (T : Ty α) (I : CM) (v : Value) (l : List α) : Prop :=
  ∃ A n c, v = .slice A n c ∧ n = l.length ∧ n ≤ c ∧ c ≤ 9223372036854775807 ∧ n ≤ 140737488355328 ∧
    (n ≠ 0 → ∃ b o, A = some ⟨b, o, none⟩ ∧ ∀ i (h : i < l.length), ∃ us, (∀ j (hj : j < us.length), I b (o + i * T.n + j) = some us[j]) ∧ T.rep I us l[i])

theorem RSl.mono {α : Type} {T : Ty α} {I J : CM} {v : Value} {l : List α} (hle : CM.le I J) (h : RSl T I v l) : RSl T J v l := by
  obtain ⟨A, n, c, rfl, hn, hc, hc', hc2, h⟩ := h
  refine ⟨A, n, c, rfl, hn, hc, hc', hc2, fun h0 => ?_⟩
  obtain ⟨b, o, hA, h⟩ := h h0
  refine ⟨b, o, hA, fun i hi => ?_⟩
  obtain ⟨us, hu, hr⟩ := h i hi
  exact ⟨us, fun j hj => hle _ _ _ (hu j hj), T.mono hle hr⟩

def Ty.slice {α : Type} (T : Ty α) : Ty (List α) where
  n := 1
  rep I us l := ∃ v, us = [v] ∧ RSl T I v l
  len h := by obtain ⟨v, rfl, _⟩ := h; rfl
  mono hle h := by obtain ⟨v, rfl, h⟩ := h; exact ⟨v, rfl, h.mono hle⟩
  one h u hu := by obtain ⟨v, rfl, A, n, c, rfl, _⟩ := h; simp at hu; subst hu; rfl

@[simp] theorem Ty.slice_n {α : Type} (T : Ty α) : (Ty.slice T).n = 1 := rfl

theorem RSl.nil {α : Type} (T : Ty α) (I : CM) : RSl T I (.slice none 0 0) ([] : List α) := ⟨none, 0, 0, rfl, rfl, Nat.le_refl _, by omega, by omega, fun h => absurd rfl h⟩

end Go.Proofs.YtlbihkgfejgefaaDoor.L
