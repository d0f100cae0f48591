/- Lib 8: rules of the words that look at memory or turn it. -/
import Derived.Test.YtlbihkgfejgefaaDoorL7
namespace Go.Proofs.YtlbihkgfejgefaaDoor.L
open Go Go.RowKit
set_option linter.unusedVariables false

section rules
variable {P : Program} {Kp : PK} {w : World} {K : VK}

theorem run_store_cells : ∀ (vs : List Value) (w : World) (g o i : Nat) (cs : List Value) (E : Nat), Blk w g cs E → o + i + vs.length ≤ cs.length → (∀ v ∈ vs, v.oneCell' = true) →
    ∃ w', (Go.storeCells ⟨g, o, none⟩ vs i).run P w = .ok () w' ∧ Mod [g] w w' ∧ Blk w' g (cs.take (o + i) ++ vs ++ cs.drop (o + i + vs.length)) E ∧ w'.heap.size = w.heap.size := by
  intro vs
  induction vs with
  | nil => intro w g o i cs E hb hl h1; exact ⟨w, rfl, Mod.refl _ _, by simpa using hb, rfl⟩
  | cons v vs ih =>
    intro w g o i cs E hb hl h1
    simp only [List.length_cons] at hl
    have hc : w.cell? ⟨g, o + i, none⟩ = some cs[o + i] := by rw [hb.cell]; exact List.getElem?_eq_getElem (by omega)
    have hf := hb.free (o + i)
    have hb' := hb.set (o + i) v
    obtain ⟨w', hr, hm, hbk, hsz⟩ := ih (w.setCell ⟨g, o + i, none⟩ v) g o (i + 1) (cs.set (o + i) v) E hb' (by simp; omega) (fun u hu => h1 u (List.mem_cons_of_mem _ hu))
    refine ⟨w', ?_, (Mod.setCell w (by simp) v).trans hm, ?_, by rw [hsz]; simp⟩
    · simp only [Go.storeCells, Sem.run_bind, add_ad, run_store P w ⟨g, o + i, none⟩ v .plain (h1 v (List.mem_cons_self ..)), hc, hf, Bool.false_eq_true, if_false, Result.andThen_ok]
      exact hr
    · have e : (cs.set (o + i) v).take (o + (i + 1)) ++ vs ++ (cs.set (o + i) v).drop (o + (i + 1) + vs.length) = cs.take (o + i) ++ (v :: vs) ++ cs.drop (o + i + (v :: vs).length) := by
        rw [show o + (i + 1) = (o + i) + 1 by omega, List.take_succ_eq_append_getElem (by simp; omega)]
        rw [List.take_set_of_le (Nat.le_refl _), List.drop_set_of_lt (by omega)]
        simp [Nat.add_assoc, Nat.add_comm 1]
      rw [e] at hbk; exact hbk

theorem rStore {t : Nat} [h : Scalar P t] {g o : Nat} {v : Value} {cs : List Value} {E : Nat} (hb : Blk w g cs E) (ho : o < cs.length) (h1 : v.oneCell' = true)
    (hk : ∀ w', Mod [g] w w' → Blk w' g (cs.set o v) E → w'.heap.size = w.heap.size → K undef w') : oStore P t (.pointer (some ⟨g, o, none⟩)) v Kp w K := by
  have hs := h.s
  have hcl : v.cells = #[v] := by cases v <;> first | rfl | (simp [Value.oneCell'] at h1)
  cases hi : P.info? t with
  | none => rw [hi] at hs; cases hs
  | some inf =>
    rw [hi] at hs
    have hs' : inf.size = 1 := by simpa using hs
    have hc : w.cell? ⟨g, o, none⟩ = some cs[o] := by rw [hb.cell]; exact List.getElem?_eq_getElem ho
    unfold oStore
    simp only [NU, Instr.storeAt, Instr.sureAddr, Go.storeVar, Sem.run_bind, Sem.run_pure, Result.andThen_ok, run_size hi, hs', hcl, Go.storeCells,
      List.size_toArray, List.length_cons, List.length_nil, ne_eq, not_true_eq_false, if_false, add_ad, Nat.add_zero,
      run_store P w ⟨g, o, none⟩ v .plain h1, hc, hb.free o, Bool.false_eq_true]
    exact hk _ (Mod.setCell w (by simp) v) (hb.set o v) (by simp)

theorem rStoreN {t n : Nat} [h : AggN P t n] {g o : Nat} {vs : List Value} {cs : List Value} {E : Nat} (hb : Blk w g cs E) (hl : vs.length = n) (ho : o + vs.length ≤ cs.length) (h1 : ∀ v ∈ vs, v.oneCell' = true)
    (hk : ∀ w', Mod [g] w w' → Blk w' g (cs.take o ++ vs ++ cs.drop (o + vs.length)) E → w'.heap.size = w.heap.size → K undef w') : oStore P t (.pointer (some ⟨g, o, none⟩)) (.agg vs.toArray) Kp w K := by
  obtain ⟨_, i, hi, hs⟩ := aggSize_spec h.h
  obtain ⟨w', hr, hm, hbk, hsz⟩ := run_store_cells (P := P) vs w g o 0 cs E hb (by omega) h1
  unfold oStore
  simp only [NU, Instr.storeAt, Instr.sureAddr, Go.storeVar, Sem.run_bind, Sem.run_pure, Result.andThen_ok, run_size hi, Value.cells, List.size_toArray, hl, hs, ne_eq, not_true_eq_false, if_false, hr]
  exact hk _ hm (by simpa using hbk) hsz

theorem rBox {t : Nat} {v : Value} (vs : List Value) (hv : v.cells = vs.toArray) (hk : ∀ w', Mod [] w w' → Blk w' w.heap.size vs t → w'.heap.size = w.heap.size + 1 → K (.pointer (some ⟨w.heap.size, 0, none⟩)) w') : oBox P t v Kp w K := by
  unfold oBox
  simp only [NV, Instr.box, Go.newVar, Go.newRow, Sem.run_bind, run_newObj, Result.andThen_ok, Sem.run_pure, World.alloc_eq, hv]
  exact hk _ (Mod.alloc _ _ _) (Blk.new _ _ _) (by simp)

theorem zero_run {t : Nat} {z : Value} (h : zeroOf P t = some z) : (Go.zeroValue t).run P w = .ok z w := by
  unfold zeroOf at h
  cases hi : P.info? t with
  | none => simp [hi] at h
  | some i =>
    have hz : i.zero = some z := by simpa [hi] using h
    unfold Go.zeroValue
    rw [Sem.run_bind, run_info hi]
    simp only [Result.andThen_ok, hz, Sem.run_pure]

theorem rAlloc {t : Nat} {z : Value} [h : ZeroT P t z] (vs : List Value) (hv : z.cells = vs.toArray) (hk : ∀ w', Mod [] w w' → Blk w' w.heap.size vs t → w'.heap.size = w.heap.size + 1 → K (.pointer (some ⟨w.heap.size, 0, none⟩)) w') : oAlloc P t Kp w K := by
  unfold oAlloc
  simp only [NV, Instr.alloc, Go.newVar, Go.newRow, Sem.run_bind, zero_run h.h, run_newObj, Result.andThen_ok, Sem.run_pure, World.alloc_eq, hv]
  exact hk _ (Mod.alloc _ _ _) (Blk.new _ _ _) (by simp)

/-- the places of a struct's fields: offset and size -/
def placesOf (P : Program) (t : Nat) : Option (List (Nat × Nat)) :=
  match P.underlying t with
  | some (.struct fs) => fs.toList.mapM fun f => (P.info? f.type).map fun i => (f.offset, i.size)
  | _ => none
class PlacesT (P : Program) (t : Nat) (pl : outParam (List (Nat × Nat))) : Prop where h : placesOf P t = some pl

theorem places_run : ∀ (l : List Field) (pl : List (Nat × Nat)), (l.mapM fun f => (P.info? f.type).map fun i => (f.offset, i.size)) = some pl →
    (l.mapM fun f => (do pure (f.offset, ← Go.sizeOf f.type) : Sem (Nat × Nat))).run P w = .ok pl w := by
  intro l
  induction l with
  | nil => intro pl h; simp at h; subst h; simp
  | cons f l ih =>
    intro pl h
    rw [List.mapM_cons] at h
    cases hi : P.info? f.type with
    | none => simp [hi] at h
    | some i =>
      simp only [hi, Option.map_some, Option.bind_eq_bind, Option.bind_some] at h
      cases hr : l.mapM (fun f => (P.info? f.type).map fun i => (f.offset, i.size)) with
      | none => simp [hr] at h
      | some pl' =>
        simp [hr] at h; subst h
        rw [List.mapM_cons]
        simp only [Sem.run_bind, run_size hi, Result.andThen_ok, Sem.run_pure, ih pl' hr]

theorem rBuild {t : Nat} {z : Value} [hz : ZeroT P t z] {pl : List (Nat × Nat)} [hp : PlacesT P t pl] {ps : List (Nat × Value)} (cs : List Value)
    (hf : Instr.fill (fun i => pl[i]?) z.cells ps = some cs.toArray) (hk : K (.agg cs.toArray) w) : oBuild P t ps Kp w K := by
  have h := hp.h
  unfold placesOf at h
  cases hu : P.underlying t with
  | none => simp [hu] at h
  | some d =>
    cases d <;> (try (simp [hu] at h; done))
    case struct fs =>
    simp only [hu] at h
    unfold oBuild
    simp only [NV, Instr.build, Sem.run_bind, zero_run hz.h, Result.andThen_ok, run_und hu]
    rw [show fs = fs.toList.toArray from rfl, List.mapM_toArray]
    simp only [Sem.run_bind, Sem.run_map]
    rw [places_run fs.toList pl h]
    simp only [Result.andThen_ok, List.getElem?_toArray, List.toList_toArray, hf, Sem.run_pure]
    exact hk

theorem rBuildS {t e sz by_ : Nat} [h : SliceT P t e sz by_] {z : Value} [hz : ZeroT P e z] {n : Nat} {ps : List (Nat × Value)} (cs : List Value) (hsmall : n * sz ≤ 16777216)
    (hf : Instr.fill (fun i => some (i * sz, sz)) ((Array.range (n * sz)).map ((if n * sz = 0 then #[] else z.cells)[· % (if n * sz = 0 then (#[] : Array Value) else z.cells).size]!)) ps = some cs.toArray)
    (hk : ∀ w', Mod [] w w' → Blk w' w.heap.size cs e → w'.heap.size = w.heap.size + 1 → K (.slice (some ⟨w.heap.size, 0, none⟩) n n) w') : oBuildS P t n ps Kp w K := by
  obtain ⟨hu, i, hi, hs, _⟩ := sliceInfo_spec h.h
  unfold oBuildS
  have hns : ¬ (n * sz > 2 ^ 24) := by omega
  simp only [NV, Instr.buildSlice, Sem.run_bind, run_und hu, Result.andThen_ok, run_size hi, hs, if_neg hns]
  by_cases h0 : n * sz = 0
  · simp only [h0, if_true, Sem.run_bind, Sem.run_pure, Result.andThen_ok] at hf ⊢
    simp only [List.toList_toArray, hf, Go.newRow, Sem.run_bind, run_newObj, Result.andThen_ok, Sem.run_pure, World.alloc_eq]
    exact hk _ (Mod.alloc _ _ _) (Blk.new _ _ _) (by simp)
  · simp only [if_neg h0, Sem.run_bind, zero_run hz.h, Sem.run_pure, Result.andThen_ok] at hf ⊢
    simp only [List.toList_toArray, hf, Go.newRow, Sem.run_bind, run_newObj, Result.andThen_ok, Sem.run_pure, World.alloc_eq]
    exact hk _ (Mod.alloc _ _ _) (Blk.new _ _ _) (by simp)

theorem rBuildS0 {t e sz by_ : Nat} [h : SliceT P t e sz by_] (hk : ∀ w', Mod [] w w' → Blk w' w.heap.size [] e → w'.heap.size = w.heap.size + 1 → K (.slice (some ⟨w.heap.size, 0, none⟩) 0 0) w') : oBuildS P t 0 [] Kp w K := by
  obtain ⟨hu, i, hi, hs, _⟩ := sliceInfo_spec h.h
  unfold oBuildS
  have hns : ¬ (0 * sz > 2 ^ 24) := by omega
  simp only [NV, Instr.buildSlice, Sem.run_bind, run_und hu, Result.andThen_ok, run_size hi, hs, if_neg hns, Nat.zero_mul, if_true, Sem.run_pure]
  have hr : ∀ (f : Nat → Value), (Array.range 0).map f = #[] := fun f => by simp
  simp only [hr, Instr.fill, Go.newRow, Sem.run_bind, run_newObj, Result.andThen_ok, Sem.run_pure, World.alloc_eq]
  exact hk _ (Mod.alloc _ _ _) (Blk.new _ _ _) (by simp)

end rules
end Go.Proofs.YtlbihkgfejgefaaDoor.L
