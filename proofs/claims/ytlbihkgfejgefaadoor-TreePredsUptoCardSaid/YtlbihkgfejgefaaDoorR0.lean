/- Rows: what the arguments read as; what a law's contract gives for its statement of the second form. -/
import Derived.Test.YtlbihkgfejgefaaDoorRows
import Derived.Test.YtlbihkgfejgefaaDoorL10
import Derived.ProofKit
import Derived.OpenShut
import Derived.JoinedCond
import Derived.Carry
namespace Go.Proofs.YtlbihkgfejgefaaDoor
open Go L Go.ChangeShapes Go.WideShapes Go.ChangeAt Go.RowKit
set_option linter.unusedVariables false

/-! ### bulk -/
theorem bulk_one {H : Type} (d : DataW H) : 1 ≤ Rows.uptoBulk d := by
  cases d with
  | lit l => cases l <;> simp [Rows.uptoBulk]
  | nil => simp [Rows.uptoBulk]
  | ptr d => simp [Rows.uptoBulk]
  | slice elems spare => simp [Rows.uptoBulk]
  | agg parts => simp [Rows.uptoBulk]
  | iface t d => simp [Rows.uptoBulk]
  | map entries => simp [Rows.uptoBulk]
  | held h => simp [Rows.uptoBulk]

theorem bulk_mem {H : Type} {d : DataW H} {l : List (DataW H)} (h : d ∈ l) : Rows.uptoBulk d ≤ Rows.uptoBulkAll l := by
  induction l with
  | nil => cases h
  | cons x r ih =>
    simp only [Rows.uptoBulkAll]
    cases List.mem_cons.1 h with
    | inl e => subst e; omega
    | inr e => have := ih e; omega

theorem exists_list {α : Type} {Q : Nat → α → Prop} : ∀ (n : Nat), (∀ i, i < n → ∃ a, Q i a) → ∃ l : List α, l.length = n ∧ ∀ i (h : i < l.length), Q i l[i] := by
  intro n
  induction n with
  | zero => intro _; exact ⟨[], rfl, fun i h => by simp at h⟩
  | succ n ih =>
    intro h
    obtain ⟨l, hl, hq⟩ := ih (fun i hi => h i (by omega))
    obtain ⟨a, ha⟩ := h n (by omega)
    refine ⟨l ++ [a], by simp [hl], fun i hi => ?_⟩
    by_cases hil : i < l.length
    · rw [List.getElem_append_left hil]; exact hq i hil
    · have : i = l.length := by simp at hi; omega
      subst this
      simp [hl]; exact ha

/-- what is handed in at type t reads as a value of T -/
structure Opens (P : Program) {α : Type} (T : Ty α) (bulk : α → Nat) (t : TypeId) : Prop where
  size : P.cellsOf t = T.n
  h : ∀ {H : Type} {enc : TypeId × Value → H} {W : World} {fuel : Nat} {cs : List Value} {x : DataW H × List MemPlace},
    DataW.trod enc P W 0 (fun _ => true) true fuel t cs = some x → Rows.uptoBulk x.1 ≤ 1048576 → ∃ a, T.rep (hide W []) cs a ∧ bulk a ≤ Rows.uptoBulk x.1

theorem opens_int {P : Program} {t : TypeId} (ht : P.underlying t = some (.int .i64)) (hc : P.cellsOf t = 1) : Opens P Ty.int (fun _ => 1) t := by
  refine ⟨hc, fun {H enc W fuel cs x} h hb => ?_⟩
  obtain ⟨n, rfl, rfl, hw⟩ := DataW.trod_int ht h
  have := bounds_i64 hw
  exact ⟨n, ⟨rfl, this.1, this.2⟩, bulk_one _⟩

theorem opens_bool {P : Program} {t : TypeId} (ht : P.underlying t = some .bool) (hc : P.cellsOf t = 1) : Opens P Ty.bool (fun _ => 1) t := by
  refine ⟨hc, fun {H enc W fuel cs x} h hb => ?_⟩
  obtain ⟨b, rfl, rfl⟩ := DataW.trod_bool ht h
  exact ⟨b, rfl, bulk_one _⟩

theorem opens_str {P : Program} {t : TypeId} (ht : P.underlying t = some .string) (hc : P.cellsOf t = 1) : Opens P Ty.str (fun s => s.size + 1) t := by
  refine ⟨hc, fun {H enc W fuel cs x} h hb => ?_⟩
  obtain ⟨s, rfl, rfl, hs⟩ := DataW.trod_string ht h
  have e : Rows.uptoBulk (DataW.lit (H := H) (.string s.data.toList)) = s.size + 1 := by simp [Rows.uptoBulk]
  dsimp only at hb ⊢
  rw [e] at hb ⊢
  exact ⟨s, ⟨rfl, by omega⟩, Nat.le_refl _⟩

def bulkL {α : Type} (bulk : α → Nat) (l : List α) : Nat := (l.map bulk).sum

theorem bulkL_le {H α : Type} (bulk : α → Nat) : ∀ (l : List α) (es : List (DataW H)), l.length = es.length → (∀ i (h : i < l.length) (h' : i < es.length), bulk l[i] ≤ Rows.uptoBulk es[i]) → bulkL bulk l ≤ Rows.uptoBulkAll es := by
  intro l
  induction l with
  | nil => intro es _ _; simp [bulkL]
  | cons a l ih =>
    intro es hl h
    cases es with
    | nil => simp at hl
    | cons e es =>
      have h0 := h 0 (by simp) (by simp)
      have := ih es (by simpa using hl) (fun i h1 h2 => by have := h (i + 1) (by simpa using h1) (by simpa using h2); simpa using this)
      simp only [bulkL, List.map_cons, List.sum_cons, Rows.uptoBulkAll] at this ⊢
      simp at h0; omega

theorem bulkL_len {α : Type} (bulk : α → Nat) (h : ∀ a, 1 ≤ bulk a) (l : List α) : l.length ≤ bulkL bulk l := by
  induction l with
  | nil => simp
  | cons x l ih => have := h x; simp only [bulkL, List.map_cons, List.sum_cons, List.length_cons] at ih ⊢; omega

theorem bulkL_get {α : Type} (bulk : α → Nat) (l : List α) (i : Nat) (h : i < l.length) : bulk l[i] ≤ bulkL bulk l := by
  induction l generalizing i with
  | nil => simp at h
  | cons x l ih =>
    simp only [bulkL, List.map_cons, List.sum_cons] at ih ⊢
    cases i with
    | zero => simp
    | succ i => have := ih i (by simpa using h); simp; omega
theorem bulkAll_len {H : Type} (l : List (DataW H)) : l.length ≤ Rows.uptoBulkAll l := by
  induction l with
  | nil => simp
  | cons x l ih => have := bulk_one x; simp only [Rows.uptoBulkAll, List.length_cons]; omega

theorem addr_add (b o i : Nat) (s : Option Nat) (j : Nat) : ∃ s', ((⟨b, o, s⟩ : Addr).add i).add j = ⟨b, o + i + j, s'⟩ ∧ (s = none → s' = none) := by
  unfold Addr.add
  split <;> split <;> simp_all

theorem opens_slice {P : Program} {α : Type} {T : Ty α} {bulk : α → Nat} {t e : TypeId} (he : Opens P T bulk e) (ht : P.underlying t = some (.slice e)) (hc : P.cellsOf t = 1) (hpos : 0 < T.n) : Opens P (Ty.slice T) (fun l => bulkL bulk l + 1) t := by
  refine ⟨hc, fun {H enc W fuel cs x} h hb => ?_⟩
  rcases DataW.trod_slice ht h with ⟨rfl, rfl⟩ | ⟨a, len, cap, elems, rest, n, _, rfl, rfl, hbb, hl, hm, hlen, hel, hsp, hns⟩
  · exact ⟨[], ⟨_, rfl, RSl.nil _ _⟩, by simp [bulkL]; exact bulk_one _⟩
  · simp only [Rows.uptoBulk] at hb ⊢
    obtain ⟨b, o, s⟩ := a
    have hlen2 := bulkAll_len (elems.map (·.1))
    rw [List.length_map, hlen] at hlen2
    have hs : len ≠ 0 → s = none := by
      intro h0
      have h1 := hel 0 (by omega)
      rw [List.getElem?_eq_getElem (by omega)] at h1
      obtain ⟨cs', hc1, hc2⟩ := Option.bind_eq_some_iff.1 h1
      obtain ⟨_, hcl, hcc⟩ := World.cells?_some hc1
      rw [he.size] at hcl hcc
      have := hcc 0 hpos
      rw [List.getElem?_eq_getElem (by omega)] at this
      have e0 : ((⟨b, o, s⟩ : Addr).add (0 * T.n)).add 0 = ⟨b, o, s⟩ := by simp [Addr.add]
      rw [e0] at this
      unfold World.cell? at this
      split at this
      · split at this
        · cases this
        · rename_i hsn; cases s with
          | none => rfl
          | some x => simp at hsn
      · cases this
    -- each element
    have each : ∀ i, i < len → ∃ v, (∃ us, (∀ j (hj : j < us.length), hide W [] b (o + i * T.n + j) = some us[j]) ∧ T.rep (hide W []) us v) ∧ ∀ y, elems[i]? = some y → bulk v ≤ Rows.uptoBulk y.1 := by
      intro i hi
      have h1 := hel i hi
      have hget : elems[i]? = some elems[i] := List.getElem?_eq_getElem (by omega)
      rw [hget] at h1
      obtain ⟨cs', hc1, hc2⟩ := Option.bind_eq_some_iff.1 h1
      have hmem := bulk_mem (List.mem_map_of_mem (f := (·.1)) (List.getElem_mem (by omega : i < elems.length)))
      obtain ⟨v, hv, hbv⟩ := he.h hc2 (by omega)
      obtain ⟨_, hcl, hcc⟩ := World.cells?_some hc1
      rw [he.size] at hcl hcc
      have hs := hs (by omega)
      subst hs
      refine ⟨v, ⟨cs', fun j hj => ?_, hv⟩, fun y hy => ?_⟩
      · have := hcc j (by omega)
        rw [add_ad, add_ad, List.getElem?_eq_getElem hj] at this
        simpa [hide] using this
      · rw [hget] at hy; cases hy; exact hbv
    obtain ⟨l, hll, hq⟩ := exists_list len each
    refine ⟨l, ⟨_, rfl, some ⟨b, o, s⟩, len, cap, rfl, hll.symm, hl, by simp only [maxLen] at hm; omega, by omega, fun h0 => ?_⟩, ?_⟩
    · have hs := hs h0
      subst hs
      exact ⟨b, o, rfl, fun i hi => (hq i hi).1⟩
    · have := bulkL_le bulk l (elems.map (·.1)) (by simp; omega) (fun i h1 h2 => by
        have := (hq i h1).2 elems[i] (List.getElem?_eq_getElem (by simpa using h2))
        simpa using this)
      omega

/-- a reading handed in, as a value -/
theorem Opens.val {P : Program} {α : Type} {T : Ty α} {bulk : α → Nat} {t : TypeId} (o : Opens P T bulk t) {H : Type} {enc : TypeId × Value → H} {W : World} {v : Value} {d : DataW H} {p : List MemPlace}
    (h : DataW.Trod enc P W 0 (fun _ => true) true t v d p) (hb : Rows.uptoBulk d ≤ 1048576) : ∃ a, T.rep (hide W []) v.cells.toList a ∧ bulk a ≤ Rows.uptoBulk d := by
  obtain ⟨fuel, h⟩ := h
  exact o.h h hb

theorem arg_int {P : Program} {t : TypeId} {bulk : Int → Nat} (ht : P.underlying t = some (.int .i64)) (o : Opens P Ty.int bulk t) {H : Type} {enc : TypeId × Value → H} {W : World} {base : Nat} {v : Value} {d : DataW H} {p : List MemPlace}
    (hv : Value.okWide P W .any base t v) (h : DataW.Trod enc P W 0 (fun _ => true) true t v d p) (hb : Rows.uptoBulk d ≤ 1048576) : ∃ n, v = .int .i64 n ∧ (-9223372036854775808 ≤ n ∧ n ≤ 9223372036854775807) ∧ bulk n ≤ Rows.uptoBulk d := by
  obtain ⟨n, rfl⟩ := okWide_int ht hv
  obtain ⟨m, hm, hbm⟩ := o.val h hb
  obtain ⟨h1, h2, h3⟩ := hm
  simp [Value.cells] at h1; subst h1
  exact ⟨_, rfl, ⟨h2, h3⟩, hbm⟩

theorem arg_str {P : Program} {t : TypeId} {bulk : ByteArray → Nat} (ht : P.underlying t = some .string) (o : Opens P Ty.str bulk t) {H : Type} {enc : TypeId × Value → H} {W : World} {base : Nat} {v : Value} {d : DataW H} {p : List MemPlace}
    (hv : Value.okWide P W .any base t v) (h : DataW.Trod enc P W 0 (fun _ => true) true t v d p) (hb : Rows.uptoBulk d ≤ 1048576) : ∃ s, v = .string s ∧ bulk s ≤ Rows.uptoBulk d := by
  obtain ⟨n, rfl⟩ := okWide_string ht hv
  obtain ⟨m, hm, hbm⟩ := o.val h hb
  obtain ⟨h1, h2⟩ := hm
  simp [Value.cells] at h1; subst h1
  exact ⟨_, rfl, hbm⟩

theorem arg_bool {P : Program} {t : TypeId} {bulk : Bool → Nat} (ht : P.underlying t = some .bool) (o : Opens P Ty.bool bulk t) {H : Type} {enc : TypeId × Value → H} {W : World} {base : Nat} {v : Value} {d : DataW H} {p : List MemPlace}
    (hv : Value.okWide P W .any base t v) (h : DataW.Trod enc P W 0 (fun _ => true) true t v d p) (hb : Rows.uptoBulk d ≤ 1048576) : ∃ s, v = .bool s ∧ bulk s ≤ Rows.uptoBulk d := by
  obtain ⟨n, rfl⟩ := okWide_bool ht hv
  obtain ⟨m, hm, hbm⟩ := o.val h hb
  have h1 : [Value.bool n] = [Value.bool m] := hm
  simp at h1; subst h1
  exact ⟨_, rfl, hbm⟩

theorem arg_agg {P : Program} {t : TypeId} {fs : Array Field} {α : Type} {T : Ty α} {bulk : α → Nat} (ht : P.underlying t = some (.struct fs)) (o : Opens P T bulk t) {H : Type} {enc : TypeId × Value → H} {W : World} {base : Nat} {v : Value} {d : DataW H} {p : List MemPlace}
    (hv : Value.okWide P W .any base t v) (h : DataW.Trod enc P W 0 (fun _ => true) true t v d p) (hb : Rows.uptoBulk d ≤ 1048576) : ∃ cs a, v = .agg (List.toArray cs) ∧ T.rep (hide W []) cs a ∧ bulk a ≤ Rows.uptoBulk d := by
  simp only [Value.okWide, ht] at hv
  obtain ⟨cs, rfl, _⟩ := hv
  obtain ⟨a, ha, hbm⟩ := o.val h hb
  exact ⟨cs.toList, a, rfl, ha, hbm⟩

theorem arg_slice {P : Program} {t e : TypeId} {α : Type} {T : Ty α} {bulk : List α → Nat} (ht : P.underlying t = some (.slice e)) (o : Opens P (Ty.slice T) bulk t) {H : Type} {enc : TypeId × Value → H} {W : World} {base : Nat} {v : Value} {d : DataW H} {p : List MemPlace}
    (hv : Value.okWide P W .any base t v) (h : DataW.Trod enc P W 0 (fun _ => true) true t v d p) (hb : Rows.uptoBulk d ≤ 1048576) : ∃ l, RSl T (hide W []) v l ∧ bulk l ≤ Rows.uptoBulk d := by
  obtain ⟨A, n, c, rfl⟩ := okWide_slice ht hv
  obtain ⟨l, hl, hbm⟩ := o.val h hb
  obtain ⟨v, h1, h2⟩ := hl
  simp [Value.cells] at h1; subst h1
  exact ⟨_, h2, hbm⟩

/-! ### the statement -/
theorem trodAll_stays {H : Type} {enc : TypeId × Value → H} {P : Program} (hl : laidOutB P = true) {W W' : World} (hb : Below W.heap.size W W') : ∀ {ts : List TypeId} {vs : List Value} {ds : List (DataW H)} {ps : List MemPlace},
    (∀ t ∈ ts, P.readableRec t = true ∧ t < P.types.size) → DataW.TrodAll enc P W 0 (fun _ => true) true ts vs ds ps → (∀ x ∈ ps, x.block < W.heap.size) → ∀ sp : Nat → Bool, (∀ x ∈ ps, sp x.block = true) →
    DataW.TrodAll enc P W' 0 sp true ts vs ds ps := by
  intro ts
  induction ts with
  | nil => intro vs ds ps _ h _ sp _; obtain ⟨rfl, rfl, rfl⟩ := trodAll_nil h; exact trodAll_mk0
  | cons t ts ih =>
    intro vs ds ps ht h hlt sp hsp
    obtain ⟨v, vs', d, ds', p, q, rfl, rfl, rfl, h1, h2⟩ := trodAll_cons h
    have h1' := WideElems.Trod_stays (sp' := sp) hl (ht t (List.mem_cons_self ..)).1 (ht t (List.mem_cons_self ..)).2 h1 (fun x hx => hb.same (hlt x (List.mem_append_left _ hx))) (fun x hx => hsp x (List.mem_append_left _ hx))
    exact trodAll_cons_mk h1' (ih (fun t h => ht t (List.mem_cons_of_mem _ h)) h2 (fun x hx => hlt x (List.mem_append_right _ hx)) sp (fun x hx => hsp x (List.mem_append_right _ hx)))

section
variable {H : Type} {enc : TypeId × Value → H} {P : Program}
theorem post_of_below {f : Func} {s : ChangeSpec} {apart fresh handsOn again : Bool} {W W' : World} {args : Array Value} {v : Value} {ds gs : List (DataW H)} {before pa pv : List MemPlace}
    (hW : DataW.Whole enc P f.params.toList s.vars apart W args.toList ds gs before)
    (hres : ∀ (b : Nat) (sp : Nat → Bool) (hd : Bool), DataW.TrodAll enc P W' b sp hd f.resultTypes.toList (v.resultList f.resultTypes.size) (s.fn H (ds ++ gs)).results [])
    (hargs : ∀ sp : Nat → Bool, (∀ p ∈ before, sp p.block = true) → DataW.TrodAll enc P W' 0 sp true f.params.toList args.toList (s.fn H (ds ++ gs)).args pa)
    (hvars : ∀ sp : Nat → Bool, (∀ p ∈ before, sp p.block = true) → DataW.TrodVars enc P W' sp s.vars (s.fn H (ds ++ gs)).vars pv)
    (hps : before = pa ++ pv) (hb : Below W.heap.size W W')
    (hok : ∀ (j : Nat) (t : TypeId) (r : Value), f.resultTypes[j]? = some t → (v.resultList f.resultTypes.size)[j]? = some r → Value.okWide P W' .any 0 t r) :
    s.post enc P f apart fresh handsOn again W args v W' := by
  have hlt : ∀ p ∈ before, p.block < W.heap.size := fun p hp => hW.lt p hp
  have hold : ∀ p ∈ before, (fun b => decide (b < W.heap.size)) p.block = true := fun p hp => by simpa using hlt p hp
  refine ⟨ds, gs, before, [], pa, pv, hW, hres _ _ _, hargs _ hold, hvars _ hold, World.keptBut_mono (fun p hp => ⟨hp, ?_⟩) (hb.frame (· ∈ before)), fun _ => ?_⟩
  · rw [hps, List.mem_append] at hp
    exact Or.inr hp
  · obtain ⟨_, _, _, _, _, hz, hn⟩ := hW
    refine ⟨hok, _, _, ([] ++ pa) ++ pv, ⟨[] ++ pa, pv, trodAll_append (hargs _ (fun _ _ => rfl)) (hres _ _ _), hvars _ (fun _ _ => rfl), rfl, ?_, ?_⟩, ?_⟩
    · intro b off hp
      have hin : MemPlace.cell b off ∈ before := by rw [hps]; simpa using hp
      rw [hb.frozen (hlt _ hin)]
      exact hz b off hin
    · intro ha
      have := hn ha
      rw [hps] at this
      simpa using this
    · intro p hp _
      rw [hps]
      simpa using hp

/-- a law that answers true and turns nothing that stood -/
theorem law_post {f : Func} {s : ChangeSpec} {tb : TypeId} {W : World} {args : Array Value} {ds gs : List (DataW H)} {before : List MemPlace} {k : FuncId} {again : Bool}
    (hl : laidOutB P = true) (hts : f.params.toList.all (fun t => P.readableRec t && decide (t < P.types.size)) = true) (hvars : s.vars = []) (hr : f.resultTypes = #[tb]) (hb : P.underlying tb = some .bool)
    (hspec : (s.fn H ds).results = [.lit (.bool true)] ∧ (s.fn H ds).args = ds ∧ (s.fn H ds).vars = [])
    (hW : DataW.Whole enc P f.params.toList s.vars false W args.toList ds gs before)
    (h : Calls P k args W (callR (fun r w' => r = .bool true ∧ Mod [] W w') noP)) :
    Calls P k args W fun e W' => ∃ v, e = .returned v ∧ s.post enc P f false true false again W args v W' := by
  refine Calls.mono h fun e W' he => ?_
  cases e with
  | panicked c => exact he.elim
  | outgrown => exact he.elim
  | returned v =>
    obtain ⟨rfl, hm⟩ := he
    have hW' := hW
    obtain ⟨p, q, hA, hV, rfl, hfz, hnd⟩ := hW
    rw [hvars] at hV
    obtain ⟨rfl, rfl⟩ := trodVars_none hV
    have hlt : ∀ x ∈ p, x.block < W.heap.size := fun x hx => hW'.lt x (List.mem_append_left _ hx)
    have hread : ∀ t ∈ f.params.toList, P.readableRec t = true ∧ t < P.types.size := fun t ht => by
      have := List.all_eq_true.1 hts t ht; simpa using this
    refine ⟨_, rfl, post_of_below (pa := p) (pv := []) hW' ?_ ?_ ?_ rfl hm.below ?_⟩
    · intro b sp hd
      rw [List.append_nil, hspec.1, hr]
      exact trodAll_cons_mk (shut_bool hb _) trodAll_mk0
    · intro sp hsp
      rw [List.append_nil, hspec.2.1]
      exact trodAll_stays hl hm.below hread hA hlt sp (fun x hx => hsp x (List.mem_append_left _ hx))
    · intro sp hsp
      rw [List.append_nil, hspec.2.2, hvars]; rfl
    · exact ok_one hr rfl (okWide_bool_mk hb _)
end
theorem ownk : ownKnob Tryd.prog.godebug = none := by kernel_rfl
theorem laidOut : laidOutB Tryd.prog = true := by kernel_rfl
theorem bulk_of {H : Type} {l : List (DataW H)} (hk : Rows.uptoSmall H l = true) : Rows.uptoBulkAll l ≤ 1048576 := of_decide_eq_true hk
end Go.Proofs.YtlbihkgfejgefaaDoor
