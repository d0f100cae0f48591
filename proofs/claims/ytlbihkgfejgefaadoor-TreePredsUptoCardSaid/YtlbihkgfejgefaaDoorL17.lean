/- Lib 17: texts appended to bytes of one's own; bytes read as a text; what strings.Builder asks. -/
import Derived.Test.YtlbihkgfejgefaaDoorL16
import Derived.Lib.AppendStr
import Derived.Lib.Builder
import Derived.Lib.UnsafeStr
import Derived.Lib.MakeNoZero
import Derived.Laws.IdiomCopy
import Derived.Laws.Externs
namespace Go.Proofs.YtlbihkgfejgefaaDoor.L
open Go Go.RowKit
set_option linter.unusedVariables false

section
variable {P : Program} {Kp : PK} {K : VK} {c : World} {I : CM} {F : Hp} {As : List HP} {w : World}

theorem bytes_us {I : CM} : ∀ {us : List (List Value)} {l : List UInt8}, us.length = l.length → (∀ i (h : i < l.length) (h' : i < us.length), Ty.byte.rep I us[i] l[i]) → us = l.map (fun b => [Value.int .u8 (b.toNat : Int)]) := by
  intro us l h1 h2
  refine List.ext_getElem (by simpa using h1) fun i h h' => ?_
  have := h2 i (by omega) h
  rw [List.getElem_map]; exact this

theorem bytes_flat (l : List UInt8) : (l.map (fun b => [Value.int .u8 (b.toNat : Int)])).flatten = l.map (fun b => Value.int .u8 (b.toNat : Int)) := by
  induction l with
  | nil => rfl
  | cons a l ih => simp [ih]

/-- bytes of one's own, in plain words -/
theorem OwnSl.bytes {E : Nat} {v : Value} {l : List UInt8} {I : CM} {h : Hp} : (OwnSl Ty.byte E v l).p I h ↔
    ((v = .slice none 0 0 ∧ l = [] ∧ ∀ b, h b = none) ∨
     ∃ g cap cur, v = .slice (some ⟨g, 0, none⟩) l.length cap ∧ h = Hp.one g (.cells cur E (0, 0)) ∧ l.length ≤ cap ∧ cap ≤ maxLen ∧ cur.size = cap ∧ cur.toList.take l.length = l.map (fun b => Value.int .u8 (b.toNat : Int))) := by
  constructor
  · rintro ⟨us, h1, h2, h3⟩
    have := bytes_us h1 h2
    subst this
    rcases h3 with h3 | ⟨g, cap, cur, e1, e2, e3, e4, e5, e6⟩
    · exact .inl h3
    · exact .inr ⟨g, cap, cur, e1, e2, e3, e4, by simpa using e5, by simpa [bytes_flat] using e6⟩
  · rintro h3
    refine ⟨l.map (fun b => [Value.int .u8 (b.toNat : Int)]), by simp, fun i _ _ => by rw [List.getElem_map]; exact rfl, ?_⟩
    rcases h3 with h3 | ⟨g, cap, cur, e1, e2, e3, e4, e5, e6⟩
    · exact .inl h3
    · exact .inr ⟨g, cap, cur, e1, e2, e3, e4, by simpa using e5, by simpa [bytes_flat] using e6⟩

/-- append of a text's bytes -/
theorem rAppStrS {t u rt e by_ : Nat} {cs : List Bool} [h : SliceT P t e 1 by_] [hz : ZeroT P e (.int .u8 0)] [hstr : StrT P u] {v : Value} {l : List UInt8} {s : ByteArray}
    (hs : St c I F (OwnSl Ty.byte e v l :: As) w) (hby : by_ = 1) (hbytes : l.length + s.size ≤ 140737488355328)
    (hk : ∀ v' w', St c I F (OwnSl Ty.byte e v' (l ++ s.data.toList) :: As) w' → K v' w') : oBI P .append #[t, u] rt cs [v, .string s] Kp w K := by
  obtain ⟨hu, i, hi, hsi, hbi⟩ := sliceInfo_spec h.h
  have hus := strT_spec hstr.h
  have hiz : i.zero = some (.int .u8 0) := by have := hz.h; unfold zeroOf at this; rw [hi] at this; simpa using this
  obtain ⟨hA, hp, hin, hI, upd⟩ := hs.upd
  have h3 := OwnSl.bytes.1 hp
  have hob : ∀ b ∈ ob v, hA b ≠ none := by
    intro b hb
    rcases h3 with ⟨rfl, _⟩ | ⟨g, cap, cur, rfl, rfl, _⟩
    · simp [ob, Value.ownBlock] at hb
    · simp [ob, Value.ownBlock] at hb; subst hb; rw [Hp.one_self]; simp
  have hown : w.ownsRow 0 e 1 v l.length (l.map (fun b => Value.int .u8 (b.toNat : Int))) := by
    refine ⟨by simp, ?_⟩
    rcases h3 with ⟨rfl, rfl, _⟩ | ⟨g, cap, cur, rfl, rfl, hc1, hcm, hcs, ht⟩
    · exact .inl ⟨rfl, rfl⟩
    · exact .inr ⟨g, cap, cur, rfl, Nat.zero_le _, Hp.one_isIn.1 hin, hc1, hcm, by simpa using hcs, by simpa using ht⟩
  have hmx : l.length + s.size ≤ maxLen := by simp only [maxLen]; omega
  obtain ⟨v', w', hr, hown', hgr, hnn⟩ := Lib.run_append_own_string (P := P) w 0 t u rt e i hu hus hi hiz hsi (by rw [hbi, hby]) v l.length _ hown s hmx hbytes (Nat.zero_le _)
  have hmod : Mod (ob v) w w' := Mod.grown hgr (fun k hk => by unfold ob; rw [hk]; simp)
  have hnew : ∀ g ∈ ob v', g ∈ ob v ∨ w.heap.size ≤ g := by
    intro g hg
    by_cases hgv : g ∈ ob v
    · exact .inl hgv
    · refine .inr ?_
      rcases h3 with ⟨rfl, rfl, _⟩ | ⟨g', cap, cur, rfl, rfl, hc1, hcm, hcs, ht⟩
      · obtain ⟨v2, w2, hr2, hown2, _⟩ := Lib.run_append_own_string (P := P) w w.heap.size t u rt e i hu hus hi hiz hsi (by rw [hbi, hby]) (.slice none 0 0) 0 [] (World.ownsRow_nil w _ e 1) s (by simpa using hmx) (by simpa using hbytes) (Nat.le_refl _)
        rw [hr] at hr2
        injection hr2 with e1 e2
        subst e1 e2
        exact (World.ownsRow.lt hown2 g (by simpa [ob] using hg)).1
      · by_cases hroom : l.length + s.size ≤ cap
        · have hr2 := Lib.run_append_room_string (P := P) w t u rt e i hu hus hi hsi g' l.length cap cur (Hp.one_isIn.1 hin) s hroom (by omega)
          rw [hr] at hr2
          injection hr2 with e1 e2
          subst e1
          exact absurd hg hgv
        · have hr2 := Lib.run_append_grow_string (P := P) w t u rt e i (.int .u8 0) hu hus hi hiz ⟨g', 0, none⟩ l.length cap _ (by rw [hsi]; simp) (hown.cells (g := g') rfl) s (by omega) (by omega) (by rw [hbi, hby]; exact growslice_fits (by omega) (by omega))
          rw [hr] at hr2
          injection hr2 with e1 e2
          subst e1
          simp [ob, Value.ownBlock] at hg
          omega
  have hsl : (l ++ s.data.toList).length = l.length + s.size := by simp
  have hcells : l.map (fun b => Value.int .u8 (b.toNat : Int)) ++ Lib.strCells s = (l ++ s.data.toList).map (fun b => Value.int .u8 (b.toNat : Int)) := by
    rw [Lib.strCells_eq]; simp [Lib.byteCells]
  unfold oBI builtin
  dsimp only
  rw [show (List.toArray [v, .string s]) = #[v, .string s] from rfl]
  simp only [Sem.run_bind, hr, Result.andThen_ok, Sem.run_pure]
  refine hk v' w' ?_
  rcases hown'.2 with ⟨rfl, hn0⟩ | ⟨g, cap, cur, rfl, _, hg, hc1, hcm, hcs, ht⟩
  · have hnil : l ++ s.data.toList = [] := List.eq_nil_of_length_eq_zero (by omega)
    exact upd (OwnSl Ty.byte e (.slice none 0 0) (l ++ s.data.toList)) w' (ob v) (fun _ => none) hmod hob (fun b x hx => by cases hx) (fun b hb => absurd rfl hb) (OwnSl.bytes.2 (.inl ⟨rfl, hnil, fun _ => rfl⟩))
  · refine upd (OwnSl Ty.byte e _ (l ++ s.data.toList)) w' (ob v) (Hp.one g (.cells cur e (0, 0))) hmod hob (Hp.one_isIn.2 hg) (fun b hb => ?_) (OwnSl.bytes.2 (.inr ⟨g, cap, cur, by rw [hsl], rfl, by omega, hcm, by simpa using hcs, by rw [hsl, ← hcells, ← ht]; simp⟩))
    have hbg := Hp.one_ne.1 hb
    subst hbg
    rcases hnew b (by simp [ob, Value.ownBlock]) with h' | h'
    · exact .inl (hob b h')
    · exact .inr h'

/-- what one writes to, with the world turned elsewhere alone -/
theorem St.turn {A : HP} (hs : St c I F (A :: As) w) {g : Nat} (hg : ∀ I h, A.p I h → h g ≠ none) {w' : World} (hm : Mod [g] w w') : St c I F As w' := by
  obtain ⟨hA, hp, hin, hI, upd⟩ := hs.upd
  have := upd HP.emp w' [g] (fun _ => none) hm (by intro b hb; simp at hb; subst hb; exact hg _ _ hp) (fun b x hx => by cases hx) (fun b hb => absurd rfl hb) (fun _ => rfl)
  exact this.drop

def isUns (P : Program) (t : Nat) : Bool := match P.underlying t with | some .unsafePointer => true | _ => false
class UnsT (P : Program) (t : Nat) : Prop where h : isUns P t = true
theorem unsT_spec {t : Nat} (h : isUns P t = true) : P.underlying t = some .unsafePointer := by
  unfold isUns at h; split at h
  · assumption
  · cases h

class ExtT (P : Program) (f : Nat) (e : outParam (Array Value → Sem Value)) : Prop where h : ∀ args w, (callFunc f args).run P w = ((e args).run P w).andThen fun v w' => .ok (.value v) w'
theorem extT_of {f : Nat} {fn : Func} {e : Array Value → Sem Value} (hf : P.funcs[f]? = some fn) (hname : (fn.name == "runtime.NumGoroutine") = false) (hb : fn.body.isNone = true) (hn : Extern.findNext fn = none) (he : Extern.find fn = some e) : ExtT P f e :=
  ⟨fun args w => run_callFunc_extern hf hname hb hn he args w⟩

theorem rExt {f : Nat} {e : Array Value → Sem Value} [h : ExtT P f e] {args : List Value} {v : Value} {w' : World} (hr : (e args.toArray).run P w = .ok v w') (hk : K v w') : oCall P f args Kp w K := by
  unfold oCall
  rw [h.h, hr]
  exact hk

theorem rToUns {s d e sz : Nat} [h : PtrT P s e sz] [h' : UnsT P d] {g : Nat} {cs : List Value} {E : Nat} (hsz : sz ≠ 0) (hb : Blk w g cs E) (hc : cs ≠ []) (hk : K (.pointer (some ⟨g, 0, none⟩)) w) : oCV P s d (.pointer (some ⟨g, 0, none⟩)) Kp w K := by
  obtain ⟨i, hi, hs⟩ := ptrInfo_size h.h
  have hsh : w.shape? g = some (E, cs.length) := by simp [World.shape?, show w.heap[g]? = _ from hb]
  have hr := Lib.run_to_unsafe (P := P) w (src := s) (dst := d) ⟨g, 0, none⟩ (ptrInfo_spec h.h) (unsT_spec h'.h) hi (by omega) hsh (List.length_pos_iff.2 hc)
  unfold oCV
  simp only [NV, hr, Sem.run_bind, Result.andThen_ok, Sem.run_pure]
  exact hk

theorem rFromUns {s d e sz : Nat} [h : PtrT P d e sz] [h' : UnsT P s] {g : Nat} {cs : List Value} {E : Nat} (hb : Blk w g cs E) (hl : liesAt P P.depth E (cs.length / P.cellsOf E) 0 e 1 = true) (hk : K (.pointer (some ⟨g, 0, none⟩)) w) : oCV P s d (.pointer (some ⟨g, 0, none⟩)) Kp w K := by
  obtain ⟨i, hi, hs⟩ := ptrInfo_size h.h
  have hsh : w.shape? g = some (E, cs.length) := by simp [World.shape?, show w.heap[g]? = _ from hb]
  have hr := Lib.run_from_unsafe (P := P) w (src := s) (dst := d) ⟨g, 0, none⟩ (unsT_spec h'.h) (ptrInfo_spec h.h) hi hsh hl
  unfold oCV
  simp only [NV, hr, Sem.run_bind, Result.andThen_ok, Sem.run_pure]
  exact hk

theorem rNeqSelf {t e sz : Nat} {ox oy : Operand} [h : PtrT P t e sz] {a : Addr} (hk : K (.bool false) w) : oBin P .neq t ox oy (.pointer (some a)) (.pointer (some a)) Kp w K := by
  obtain ⟨i, hi, hs⟩ := ptrInfo_size h.h
  refine rBin_of ?_ hk
  have hr := Lib.run_neq_ptr_same (P := P) w a (ptrInfo_spec h.h) hi
  simp only [eqGuard, Sem.run_bind, run_und (ptrInfo_spec h.h), Result.andThen_ok, hr]
  simp [hr]

theorem rEqlNN {t e sz : Nat} {ox oy : Operand} [h : PtrT P t e sz] (hk : K (.bool true) w) : oBin P .eql t ox oy (.pointer none) (.pointer none) Kp w K := by
  have hu := ptrInfo_spec h.h
  refine rBin_of ?_ hk
  have : (Op.equalIn Op.maxDepth t (.pointer none) (.pointer none)).run P w = .ok true w := by
    unfold Op.maxDepth
    rw [show (10000 : Nat) = 9999 + 1 from rfl, Op.equalIn]
    simp only [Sem.run_bind, run_und hu, Result.andThen_ok]
    rfl
  simp only [eqGuard, binOp, Op.equal, Sem.run_bind, this, Bool.not_true, Bool.false_eq_true, if_false, Result.andThen_ok, Sem.run_pure]

/-- make without zeroing -/
theorem rMkNZ {ps : Array TypeId} {f t e by_ n : Nat} [h : SliceT P t e 1 by_] [hf : ExtT P f (Extern.BytealgMakeNoZero.makeNoZero ps #[t])] (hs : St c I F As w) (hn : n ≤ 140737488355328)
    (hk : ∀ g cp w', St c I F (OwnSl Ty.byte e (.slice (some ⟨g, 0, none⟩) 0 cp) [] :: As) w' → n ≤ cp → cp ≤ 9223372036854775807 → K (.slice (some ⟨g, 0, none⟩) n cp) w') : oCall P f [.int .i64 n] Kp w K := by
  obtain ⟨hu, i, hi, hsi, hbi⟩ := sliceInfo_spec h.h
  obtain ⟨cs, hr, hle, hmx⟩ := Lib.run_makeNoZero (P := P) w ps t e hu n (by omega)
  have hm := hmx (by simp only [maxLen]; omega)
  refine rExt hr (hk _ _ _ ?_ hle (by simpa only [maxLen] using hm))
  have h1 := hs.allocArr (w' := w.drew.drew.alloc (.cells cs e)) rfl ((Mod.refl [] w).drew.drew.trans (Mod.alloc _ _ _)) (heap_alloc_new w.drew.drew _)
  refine h1.wk fun I h hh => OwnSl.bytes.2 (.inr ⟨_, _, cs, rfl, by simpa [Cells] using hh, Nat.zero_le _, hm, rfl, by simp⟩)

theorem rCopy0 {t u rt e by_ : Nat} {cb : List Bool} [h : SliceT P t e 1 by_] {A B : Option Addr} {n m p q : Nat} (h0 : Nat.min n m = 0) (hk : K (.int .i64 0) w) : oBI P .copy #[t, u] rt cb [.slice A m p, .slice B n q] Kp w K := by
  obtain ⟨hu, i, hi, hsi, hbi⟩ := sliceInfo_spec h.h
  have hr := run_copy_none (P := P) w t u rt e A B m p n q hu (by rw [hi]; simp [hsi]) h0
  unfold oBI builtin
  dsimp only
  rw [show (List.toArray [Value.slice A m p, .slice B n q]) = #[.slice A m p, .slice B n q] from rfl]
  simp only [Sem.run_bind, hr, Result.andThen_ok, Sem.run_pure]
  exact hk

theorem rUSDsome {ts : Array TypeId} {rt : Nat} {cb : List Bool} {a : Addr} {n c : Nat} (hc : c ≠ 0) (hk : K (.pointer (some a)) w) : oBI P .unsafeSliceData ts rt cb [.slice (some a) n c] Kp w K := by
  have hr := Lib.run_unsafeSliceData_row (P := P) w ts rt a n c hc
  unfold oBI builtin
  dsimp only
  rw [show (List.toArray [Value.slice (some a) n c]) = #[.slice (some a) n c] from rfl]
  simp only [Sem.run_bind, hr, Result.andThen_ok, Sem.run_pure]
  exact hk
theorem rUSDnil {ts : Array TypeId} {rt : Nat} {cb : List Bool} {n c : Nat} (hk : K (.pointer none) w) : oBI P .unsafeSliceData ts rt cb [.slice none n c] Kp w K := by
  have hr := Lib.run_unsafeSliceData_nil (P := P) w ts rt n c
  unfold oBI builtin
  dsimp only
  rw [show (List.toArray [Value.slice none n c]) = #[.slice none n c] from rfl]
  simp only [Sem.run_bind, hr, Result.andThen_ok, Sem.run_pure]
  exact hk
theorem rUSDzero {ts : Array TypeId} {rt e sz : Nat} {cb : List Bool} [h : PtrT P rt e sz] {g n E : Nat} {cs : List Value} (hb : Blk w g cs E) (hk : ∀ p w', Mod [] w w' → K (.pointer (some p)) w') : oBI P .unsafeSliceData ts rt cb [.slice (some ⟨g, 0, none⟩) n 0] Kp w K := by
  have hsh : w.shape? g = some (E, cs.length) := by simp [World.shape?, show w.heap[g]? = _ from hb]
  have hr := Lib.run_unsafeSliceData_zero (P := P) w ts rt e (ptrInfo_spec h.h) ⟨g, 0, none⟩ n _ hsh
  unfold oBI builtin
  dsimp only
  rw [show (List.toArray [Value.slice (some ⟨g, 0, none⟩) n 0]) = #[.slice (some ⟨g, 0, none⟩) n 0] from rfl]
  simp only [Sem.run_bind, hr, Result.andThen_ok, Sem.run_pure]
  exact hk _ _ (Mod.alloc _ _ _)
theorem rUSDown {ts : Array TypeId} {rt e e' sz : Nat} {cb : List Bool} [h : PtrT P rt e' sz] {A : Option Addr} {n cp : Nat} {l : List UInt8} (hs : St c I F (OwnSl Ty.byte e (.slice A n cp) l :: As) w)
    (hk : ∀ q w', (l ≠ [] → q = A) → St c I F (OwnSl Ty.byte e (.slice A n cp) l :: As) w' → K (.pointer q) w') : oBI P .unsafeSliceData ts rt cb [.slice A n cp] Kp w K := by
  cases A with
  | none => exact rUSDnil (hk none _ (fun _ => rfl) hs)
  | some a =>
    by_cases hcp : cp = 0
    · subst hcp
      obtain ⟨hA, hpp, hin, -, -⟩ := hs.upd
      rcases OwnSl.bytes.1 hpp with ⟨h1, _⟩ | ⟨g', cap, cur, he, rfl, hc, _⟩
      · cases h1
      cases he
      refine rUSDzero (cs := cur.toList) (E := e) (by unfold Blk; rw [Array.toArray_toList]; exact Hp.one_isIn.1 hin) fun q w1 hm => ?_
      exact hk (some q) w1 (fun h => absurd (List.length_eq_zero_iff.1 (by omega)) h) (hs.same hm)
    · exact rUSDsome hcp (hk (some a) _ (fun _ => rfl) hs)
theorem rUStr0 {pt it rt : Nat} {cb : List Bool} {p : Option Addr} (hk : K (.string .empty) w) : oBI P .unsafeString #[pt, it] rt cb [.pointer p, .int .i64 0] Kp w K := by
  have hr := Lib.run_unsafeString_none (P := P) w pt it rt p
  unfold oBI builtin
  dsimp only
  rw [show (List.toArray [Value.pointer p, .int .i64 0]) = #[.pointer p, .int .i64 0] from rfl]
  simp only [Sem.run_bind, hr, Result.andThen_ok, Sem.run_pure]
  exact hk
theorem Mod.freeze (w : World) (g o n : Nat) : Mod [g] w (w.freeze ⟨g, o, none⟩ n) := by
  unfold World.freeze
  split
  · exact Mod.refl _ _
  · exact ⟨rfl, rfl, rfl, by simp, fun k hk hn => by
      simp only [Array.getElem?_modify]
      rw [if_neg (by simp at hn; omega)]⟩

/-- bytes of one's own, read as a text, and frozen -/
theorem rUStr {pt it rt e : Nat} {cb : List Bool} [h : PtrT P pt e 1] {A : Option Addr} {n cp : Nat} {l : List UInt8} (hce : P.cellsOf e = 1) (hs : St c I F (OwnSl Ty.byte e (.slice A n cp) l :: As) w) (h0 : l ≠ [])
    (hk : ∀ w', St c I F As w' → K (.string ⟨l.toArray⟩) w') : oBI P .unsafeString #[pt, it] rt cb [.pointer A, .int .i64 l.length] Kp w K := by
  obtain ⟨hA, hp, hin, hI, upd⟩ := hs.upd
  rcases OwnSl.bytes.1 hp with ⟨_, h1, _⟩ | ⟨g, cap, cur, he, rfl, hc, hcm, hcs, ht⟩
  · exact absurd h1 h0
  cases he
  have hg : w.heap[g]? = some (.cells cur e (0, 0)) := Hp.one_isIn.1 hin
  have hr := Lib.run_unsafeString_row (P := P) w pt it rt e (ptrInfo_spec h.h) hce g cur.size (by simp [World.shape?, hg]) l h0 (by omega) (by simp only [maxLen] at hcm; omega) (fun j x hj => by
    rw [add_ad]
    simp only [World.cell?, hg]
    have hjl : j < l.length := (List.getElem?_eq_some_iff.1 hj).1
    have h2 : (cur.toList.take l.length)[j]? = some (Value.int .u8 x.toNat) := by rw [ht, List.getElem?_map, hj]; rfl
    rw [List.getElem?_take_of_lt hjl] at h2
    simpa using h2)
  unfold oBI builtin
  dsimp only
  rw [show (List.toArray [Value.pointer (some ⟨g, 0, none⟩), .int .i64 l.length]) = #[.pointer (some ⟨g, 0, none⟩), .int .i64 l.length] from rfl]
  simp only [Sem.run_bind, hr, Result.andThen_ok, Sem.run_pure]
  refine hk _ ?_
  have := upd HP.emp (w.freeze ⟨g, 0, none⟩ l.length) [g] (fun _ => none) (Mod.freeze _ _ _ _) (by intro b hb; simp at hb; subst hb; rw [Hp.one_self]; simp) (fun b x hx => by cases hx) (fun b hb => absurd rfl hb) (fun _ => rfl)
  exact this.drop
end
end Go.Proofs.YtlbihkgfejgefaaDoor.L
