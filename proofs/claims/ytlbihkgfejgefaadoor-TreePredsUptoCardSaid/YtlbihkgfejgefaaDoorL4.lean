/- Lib 4: soundness of 'W'. -/
import Derived.Test.YtlbihkgfejgefaaDoorL3
namespace Go.Proofs.YtlbihkgfejgefaaDoor.L
open Go
section any
variable {P : Program} {ops : Array Oper} {K0 : Act → World → Prop}

def anyB (P : Program) (ops : Array Oper) (K0 : Act → World → Prop) : Nat → Array Bool → Act → World → Prop
  | 0, listed, a, w => Region.ready .any ops listed = [] ∧ K0 a w
  | fuel + 1, listed, a, w => (Region.ready .any ops listed = [] → K0 a w) ∧
    ∀ i ∈ Region.ready .any ops listed, ∀ o, ops[i]? = some o → bh P ops o a w fun v w' => anyB P ops K0 fuel (listed.setIfInBounds i true) (a.put o.dst v) w'

def txB (P : Program) (ops : Array Oper) (K0 : Act → World → Prop) : List Oper → Act → World → Prop
  | [], a, w => K0 a w
  | o :: l, a, w => bh P ops o a w fun v w' => txB P ops K0 l (a.put o.dst v) w'

structure Fine (ops : Array Oper) : Prop where
  plain : ∀ (j : Nat) (o : Oper), ops[j]? = some o → plainOp o = true
  edges : ∀ (j : Nat) (o : Oper), ops[j]? = some o → ∀ e ∈ o.after, Region.binds .any e = true → e.on < j
  pairs : ∀ (i j : Nat) (oi oj : Oper), ops[i]? = some oi → ops[j]? = some oj → i < j → pairOk false ops (fun j => (masksGo ops.toList []).getD j 0) i oi j oj = true

structure FineH (ops : Array Oper) : Prop where
  plain : ∀ (j : Nat) (o : Oper), ops[j]? = some o → plainOp o = true
  edges : ∀ (j : Nat) (o : Oper), ops[j]? = some o → ∀ e ∈ o.after, Region.binds .any e = true → e.on < j
  pairs : ∀ (i j : Nat) (oi oj : Oper), ops[i]? = some oi → ops[j]? = some oj → i < j → pairOk true ops (fun j => (masksGo ops.toList []).getD j 0) i oi j oj = true

theorem edgesOk_spec : ∀ (l : List Oper) (k : Nat), edgesOk l k = true → ∀ j o, l[j]? = some o → ∀ e ∈ o.after, Region.binds .any e = true → e.on < k + j := by
  intro l
  induction l with
  | nil => intro k _ j o h; simp at h
  | cons o l ih =>
    intro k h j o' hj e he hb
    simp only [edgesOk, Bool.and_eq_true, List.all_eq_true] at h
    cases j with
    | zero =>
      simp at hj; subst hj
      have := h.1 e (by simpa using he)
      simp [hb] at this
      exact this
    | succ j =>
      have := ih (k + 1) h.2 j o' (by simpa using hj) e he hb
      omega

theorem rowOk_spec {hd : Bool} {look : Nat → Nat} {i : Nat} {oi : Oper} : ∀ (l : List Oper) (k : Nat), rowOk hd ops look i oi l k = true → ∀ j o, l[j]? = some o → pairOk hd ops look i oi (k + j) o = true := by
  intro l
  induction l with
  | nil => intro k _ j o h; simp at h
  | cons o l ih =>
    intro k h j o' hj
    simp only [rowOk, Bool.and_eq_true] at h
    cases j with
    | zero => simp at hj; subst hj; exact h.1
    | succ j => have := ih (k + 1) h.2 j o' (by simpa using hj); rwa [show k + 1 + j = k + (j + 1) by omega] at this

theorem pairsOk_spec {hd : Bool} {look : Nat → Nat} : ∀ (l : List Oper) (k : Nat), pairsOk hd ops look l k = true → ∀ i j oi oj, l[i]? = some oi → l[j]? = some oj → i < j → pairOk hd ops look (k + i) oi (k + j) oj = true := by
  intro l
  induction l with
  | nil => intro k _ i j oi oj h; simp at h
  | cons o l ih =>
    intro k h i j oi oj hi hj hlt
    simp only [pairsOk, Bool.and_eq_true] at h
    cases i with
    | zero =>
      simp at hi; subst hi
      cases j with
      | zero => omega
      | succ j => have := rowOk_spec l (k + 1) h.1 j oj (by simpa using hj); rwa [show k + 1 + j = k + (j + 1) by omega] at this
    | succ i =>
      cases j with
      | zero => omega
      | succ j =>
        have := ih (k + 1) h.2 i j oi oj (by simpa using hi) (by simpa using hj) (by omega)
        rwa [show k + 1 + i = k + (i + 1) by omega, show k + 1 + j = k + (j + 1) by omega] at this

theorem lookR_eq (acc : List Nat) (i : Nat) : lookR acc acc.length i = acc.reverse.getD i 0 := by
  unfold lookR
  by_cases h : i < acc.length
  · have hb : Nat.ble (i + 1) acc.length = true := Nat.ble_eq_true_of_le h
    rw [hb, cond_true]
    simp only [List.getD_eq_getElem?_getD]
    rw [List.getElem?_reverse h]
  · have hb : Nat.ble (i + 1) acc.length = false := by
      cases hc : Nat.ble (i + 1) acc.length with
      | false => rfl
      | true => exact absurd (Nat.le_of_ble_eq_true hc) (by omega)
    rw [hb, cond_false, List.getD_eq_getElem?_getD, List.getElem?_eq_none (by simp; omega)]; rfl

theorem maskF_eq (acc : List Nat) (o : Oper) : maskF acc acc.length o = maskOf acc.reverse o := by
  unfold maskF maskOf
  congr 1
  funext s e
  rw [lookR_eq]

theorem masksF_eq : ∀ (l : List Oper) (acc : List Nat), (masksF l acc.length acc).reverse = masksGo l acc.reverse ∧ (masksF l acc.length acc).length = acc.length + l.length := by
  intro l
  induction l with
  | nil => intro acc; exact ⟨rfl, rfl⟩
  | cons o l ih =>
    intro acc
    have := ih (maskF acc acc.length o :: acc)
    simp only [masksF, force_eq, masksGo]
    simp only [List.length_cons, List.reverse_cons, maskF_eq] at this ⊢
    exact ⟨this.1, by rw [this.2]; omega⟩

theorem look_eq (ops : Array Oper) : lookR (masksF ops.toList 0 []) ops.size = fun j => (masksGo ops.toList []).getD j 0 := by
  funext j
  obtain ⟨h1, h2⟩ := masksF_eq ops.toList []
  have hl : ops.size = (masksF ops.toList 0 []).length := by simpa using h2.symm
  rw [hl, lookR_eq]
  have : (masksF ops.toList 0 []).reverse = masksGo ops.toList [] := h1
  rw [this]

theorem inMask_iff {m t : Nat} (h : inMask m t = true) : m.testBit t = true := by
  have := Nat.eq_of_beq_eq_true h
  unfold Nat.testBit
  have h2 : 1 &&& (m >>> t) = 1 := by rw [Nat.and_comm]; exact this
  rw [h2]; rfl

theorem fine_of (h : orderOk false ops = true) : Fine ops := by
  simp only [orderOk, look_eq, Bool.and_eq_true, List.all_eq_true] at h
  obtain ⟨⟨h1, h2⟩, h3⟩ := h
  refine ⟨fun j o hj => h1 o (by rw [Array.mem_toList_iff]; exact Array.mem_of_getElem? hj), fun j o hj e he hb => ?_, fun i j oi oj hi hj hlt => ?_⟩
  · have := edgesOk_spec ops.toList 0 h2 j o (by simpa using hj) e he hb
    omega
  · have := pairsOk_spec ops.toList 0 h3 i j oi oj (by simpa using hi) (by simpa using hj) hlt
    simpa using this

theorem fineH_of (h : orderOk true ops = true) : FineH ops := by
  simp only [orderOk, look_eq, Bool.and_eq_true, List.all_eq_true] at h
  obtain ⟨⟨h1, h2⟩, h3⟩ := h
  refine ⟨fun j o hj => h1 o (by rw [Array.mem_toList_iff]; exact Array.mem_of_getElem? hj), fun j o hj e he hb => ?_, fun i j oi oj hi hj hlt => ?_⟩
  · have := edgesOk_spec ops.toList 0 h2 j o (by simpa using hj) e he hb
    omega
  · have := pairsOk_spec ops.toList 0 h3 i j oi oj (by simpa using hi) (by simpa using hj) hlt
    simpa using this

theorem plain_select {o : Oper} (h : plainOp o = true) (cs : Array SelectCase) (b : Bool) : o.op ≠ .select cs b := by
  intro e; simp [plainOp, e] at h

theorem closed_set {listed : Array Bool} (hc : Closed ops listed) {j : Nat} (hj : j ∈ Region.ready .any ops listed) : Closed ops (listed.setIfInBounds j true) := by
  obtain ⟨_, oj, hoj, hall⟩ := mem_ready.1 hj
  intro k ok hk hl e he hb
  by_cases hjk : j = k
  · subst hjk
    have : ok = oj := Option.some.inj (hk.symm.trans hoj)
    subst this
    exact getD_set_true (hall e he hb)
  · rw [getD_set_ne false hjk] at hl
    exact getD_set_true (hc k ok hk hl e he hb)

/-- 'i' is not listed, 'j' may come up: the two commute -/
theorem pair_ready (hf : Fine ops) {listed : Array Bool} (hc : Closed ops listed) {i j : Nat} {oi oj : Oper} (hoi : ops[i]? = some oi) (hoj : ops[j]? = some oj) (hij : i < j)
    (hi : listed.getD i false = false) (hj : j ∈ Region.ready .any ops listed) : oi.apart ops oj = true ∧ (cls oi = 0 ∨ cls oj = 0 ∨ (cls oi = 1 ∧ (cls oj = 1 ∨ cls oj = 3))) := by
  have hp := hf.pairs i j oi oj hoi hoj hij
  unfold pairOk at hp
  rw [Bool.or_eq_true] at hp
  rcases hp with hp | hp
  · exfalso
    obtain ⟨_, o', ho', hall⟩ := mem_ready.1 hj
    have : o' = oj := Option.some.inj (ho'.symm.trans hoj)
    subst this
    have := masks_spec ops j o' i hoj (inMask_iff hp) listed hc hall
    rw [hi] at this; cases this
  · simp only [Bool.and_eq_true, Bool.or_eq_true, beq_iff_eq] at hp
    exact ⟨hp.1, by rcases hp.2 with (h | h) | ⟨h, h' | h'⟩ <;> simp [*]⟩

theorem getD_false_of_true {listed : Array Bool} {i : Nat} (h : listed.getD i true = false) : listed.getD i false = false := by
  rcases Nat.lt_or_ge i listed.size with h' | h'
  · simp [h'] at h ⊢; exact h
  · simp [Array.getElem?_eq_none h'] at h

/-- the first in the text may be taken first -/
theorem anyB_first (hf : Fine ops) {i : Nat} {oi : Oper} (hoi : ops[i]? = some oi) : ∀ (fuel : Nat) (listed : Array Bool) (a : Act) (w : World),
    Closed ops listed → (∀ j, j < i → j < ops.size → listed.getD j true = true) → i ∈ Region.ready .any ops listed →
    bh P ops oi a w (fun v w' => anyB P ops K0 fuel (listed.setIfInBounds i true) (a.put oi.dst v) w') → anyB P ops K0 (fuel + 1) listed a w := by
  intro fuel
  induction fuel with
  | zero =>
    intro listed a w hc hlow hi h
    refine ⟨fun h0 => (by rw [h0] at hi; cases hi), fun j hj o ho => ?_⟩
    by_cases hji : j = i
    · subst hji
      have : o = oi := Option.some.inj (ho.symm.trans hoi)
      subst this; exact h
    · exfalso
      obtain ⟨v, w', hk⟩ := bh_inh h
      have := ready_mono hj hji
      rw [hk.1] at this; cases this
  | succ fuel ih =>
    intro listed a w hc hlow hi h
    refine ⟨fun h0 => (by rw [h0] at hi; cases hi), fun j hj oj hoj => ?_⟩
    by_cases hji : j = i
    · subst hji
      have : oj = oi := Option.some.inj (hoj.symm.trans hoi)
      subst this; exact h
    · have hjr := mem_ready.1 hj
      have hij : i < j := by
        rcases Nat.lt_or_ge i j with h' | h'
        · exact h'
        · exfalso
          have hjs : j < ops.size := (Array.getElem?_eq_some_iff.1 hoj).1
          have := hlow j (by omega) hjs
          rw [hjr.1] at this; cases this
      obtain ⟨hap, hcl⟩ := pair_ready hf hc hoi hoj hij (getD_false_of_true (mem_ready.1 hi).1) hj
      obtain ⟨h1, h2, h3⟩ := Oper.apart_spec hap
      have hsi := plain_select (hf.plain i oi hoi)
      have hsj := plain_select (hf.plain j oj hoj)
      -- first i, then j
      have hh : bh P ops oi a w fun v w' => bh P ops oj a w' fun u w'' => anyB P ops K0 fuel ((listed.setIfInBounds i true).setIfInBounds j true) ((a.put oi.dst v).put oj.dst u) w'' := by
        refine bh_mono (fun v w' hk => ?_) h
        have := hk.2 j (ready_mono hj hji) oj hoj
        rw [bh_put hsj h1] at this
        exact this
      have hh' := commute a w hcl (K := fun v u w'' => anyB P ops K0 fuel ((listed.setIfInBounds i true).setIfInBounds j true) ((a.put oi.dst v).put oj.dst u) w'') hh
      refine bh_mono (fun u w' hk => ?_) hh'
      refine ih (listed.setIfInBounds j true) (a.put oj.dst u) w' (closed_set hc hj) (fun k hk hks => ?_) (ready_mono hi (fun e => hji e.symm)) ?_
      · rw [getD_set_ne true (by omega)]; exact hlow k hk hks
      · rw [bh_put hsi h3]
        refine bh_mono (fun v w'' hk' => ?_) hk
        rw [Array.setIfInBounds_comm _ _ hji, ← Act.put_comm a v u h2]
        exact hk'

/-- the operations from number k on, in the order of the text -/
theorem anyB_text (hf : Fine ops) : ∀ (l : List Oper) (k : Nat) (listed : Array Bool) (a : Act) (w : World), (∀ j : Nat, l[j]? = ops[k + j]?) → listed.size = ops.size →
    (∀ j, j < ops.size → listed.getD j true = decide (j < k)) → txB P ops K0 l a w → anyB P ops K0 l.length listed a w := by
  intro l
  induction l with
  | nil =>
    intro k listed a w hl hs hlow h
    refine ⟨?_, h⟩
    rw [List.eq_nil_iff_forall_not_mem]
    intro j hj
    obtain ⟨h0, o, ho, _⟩ := mem_ready.1 hj
    have hjs : j < ops.size := (Array.getElem?_eq_some_iff.1 ho).1
    have := hlow j hjs
    rw [h0] at this
    have hk : k ≤ j := by have := of_decide_eq_false this.symm; omega
    have := hl (j - k)
    rw [show k + (j - k) = j by omega, ho] at this
    simp at this
  | cons o l ih =>
    intro k listed a w hl hs hlow h
    have h0 : ops[k]? = some o := by simpa using (hl 0).symm
    have hks : k < ops.size := (Array.getElem?_eq_some_iff.1 h0).1
    have hgetD : ∀ j, j < k → listed.getD j false = true := fun j hj => by
      have h := hlow j (by omega)
      have hjs : j < listed.size := by omega
      simp [hjs, hj] at h ⊢; exact h
    have hc : Closed ops listed := by
      intro j oj hj hl' e he hb
      have hjs : j < ops.size := (Array.getElem?_eq_some_iff.1 hj).1
      have hjk : j < k := by
        have h := hlow j hjs
        have hjs' : j < listed.size := by omega
        simp [hjs'] at h hl'
        rw [hl'] at h
        exact of_decide_eq_true h.symm
      exact hgetD _ (Nat.lt_trans (hf.edges j oj hj e he hb) hjk)
    refine anyB_first hf h0 l.length listed a w hc (fun j hj hjs => by rw [hlow j hjs]; simp [hj]) ?_ ?_
    · exact mem_ready.2 ⟨by rw [hlow k hks]; simp, o, h0, fun e he hb => hgetD _ (hf.edges k o h0 e he hb)⟩
    · refine bh_mono (fun v w' hk => ih (k + 1) _ _ _ (fun j => by have := hl (j + 1); rw [show k + 1 + j = k + (j + 1) by omega]; simpa using this) (by simp [hs]) (fun j hjs => ?_) hk) h
      by_cases hjk : k = j
      · subst hjk; simp [hs, hks]
      · rw [getD_set_ne true hjk, hlow j hjs]
        congr 1
        exact propext ⟨fun h => by omega, fun h => by omega⟩

theorem upon_of_fin0 {a : Act} {o : Oper} {K : VK} {next : Act → World → Prop} {Q' : Exit → Act → World → Prop}
    (hn : ∀ v w, K v w → next (a.put o.dst v) w) : ∀ (r : Result Next), fin P K noP r → o.upon P a next Q' r :=
  upon_of_fin hn (fun _ _ h => h.elim)

theorem wpAny_of_anyB {Q' : Exit → Act → World → Prop} (hQ : ∀ a w, K0 a w → Q' .normal a w) : ∀ (fuel : Nat) (listed : Array Bool) (a : Act) (w : World),
    anyB P ops K0 fuel listed a w → wpAny P .any ops Q' fuel listed a w
  | 0, _, _, _, h => ⟨h.1, hQ _ _ h.2⟩
  | fuel + 1, listed, a, w, h => ⟨fun h0 => hQ _ _ (h.1 h0), fun i hi => by
      obtain ⟨_, o, ho, _⟩ := mem_ready.1 hi
      have hb := h.2 i hi o ho
      unfold wpOp
      simp only [ho]
      unfold bh at hb
      split at hb
      · rename_i hw
        rw [if_pos hw]
        rw [oneOp_true] at hb
        refine .inl ?_
        split at hb
        · rename_i t x hop
          obtain ⟨v, hv, hk⟩ := hb
          unfold Oper.wp execOp
          simp only [hop, Sem.run_bind, hv w (Ext.refl w), Result.andThen_ok]
          exact wpAny_of_anyB hQ fuel _ _ _ hk
        · exact upon_of_fin0 (fun v w' hk => wpAny_of_anyB hQ fuel _ _ _ hk) _ hb.2
      · rename_i hw
        rw [if_neg hw]
        exact wpAny_of_anyB hQ fuel _ _ _ hb⟩

end any

section draw
variable {P : Program} {n : Nat} {Q : Exit → Env → World → Prop} {ops : Array Oper}

theorem txB_of_Wlist (hd : dstsOk n ops) {ws : List Nat} : ∀ (l : List Oper) (ρ0 : Env), (∀ o ∈ l, ∃ j : Nat, ops[j]? = some o) → (∀ o ∈ l, ∀ t, o.dst = some t → t ∈ ws) → ∀ (ρ : Env) (w : World) (a : Act), Rel n a ρ → (∀ t, t ∉ ws → ρ t = ρ0 t) →
    Wlist P ops (Q .normal) noP true l ρ w → txB P ops (fun a w => ∃ ρ', Rel n a ρ' ∧ (∀ t, t ∉ ws → ρ' t = ρ0 t) ∧ Q .normal ρ' w) l a w := by
  intro l ρ0
  induction l with
  | nil => intro _ _ ρ w a hr ha h; exact ⟨ρ, hr, ha, h⟩
  | cons o l ih =>
    intro hm hw ρ w a hr ha h
    have ih' := ih (fun o' h' => hm o' (List.mem_cons_of_mem _ h')) (fun o' h' => hw o' (List.mem_cons_of_mem _ h'))
    obtain ⟨jo, hjo⟩ := hm o (List.mem_cons_self ..)
    have hdo : ∀ t, o.dst = some t → t < n := fun t ht => hd jo t (by simp [hjo, ht])
    have next : ∀ v w', Wlist P ops (Q .normal) noP true l (pt ρ o.dst v) w' → txB P ops (fun a w => ∃ ρ', Rel n a ρ' ∧ (∀ t, t ∉ ws → ρ' t = ρ0 t) ∧ Q .normal ρ' w) l (a.put o.dst v) w' := by
      intro v w' h'
      refine ih' _ _ _ (hr.put _ hdo v) (fun t ht => ?_) h'
      cases hdd : o.dst with
      | none => exact ha t ht
      | some d =>
        have : t ≠ d := fun e => ht (e ▸ hw o (List.mem_cons_self ..) d hdd)
        simp only [pt, nbeq_ne this, cond_false]; exact ha t ht
    unfold txB bh
    unfold Wlist at h
    simp only [oneOp_eq P noP true _ (ev_func _)] at h
    cases hg : o.guard with
    | none =>
      simp only [hg] at h
      rw [if_pos (wanted_none hg _), hr.eval]
      rw [oneOp_true] at h ⊢
      split at h
      · exact oLD_mono next h
      · exact ⟨h.1, fin_mono next h.2⟩
    | some g =>
      obtain ⟨j, want⟩ := g
      simp only [hg] at h
      cases hj : ((ops[j]? : Option Oper)).bind (fun o => o.dst) with
      | none => simp only [hj] at h
      | some t =>
        simp only [hj] at h
        rw [wanted_some hr hg hj (hd j t hj)]
        cases hb : isB (ρ t) want with
        | true =>
          simp only [hb, oG] at h
          rw [if_pos rfl, hr.eval]
          rw [oneOp_true] at h ⊢
          split at h
          · exact oLD_mono next h
          · exact ⟨h.1, fin_mono next h.2⟩
        | false =>
          simp only [hb, oG] at h
          rw [if_neg (by simp)]
          exact next _ _ h

end draw

/-! ### a region in which what the loads read stays as it is -/
section held
variable {P : Program} {ops : Array Oper} {K0 : Act → World → Prop} {S : World → Prop}

def oneOpH' (P : Program) (ops : Array Oper) (S : World → Prop) (e : Operand → Value) (o : Oper) (w : World) (K : VK) : Prop :=
  match o.op with
  | .load t a => oHL P S t (e a) w K
  | _ => match Nat.beq (cls o) 0 with
    | true => oneOp' P noP true e o w K
    | false => match lateO ops o with
      | true => oneOp' P noP true e o w K
      | false => oneOp' P noP true e o w fun v w' => S w' ∧ K v w'

theorem oneOpH_eq (P : Program) (ops : Array Oper) (S : World → Prop) (e : Operand → Value) (he : ∀ f, e (.func f) = .func (.func f) #[] #[]) (o : Oper) (w : World) (K : VK) : oneOpH P ops S e o w K = oneOpH' P ops S e o w K := by
  unfold oneOpH oneOpH'
  simp only [oneOp_eq P noP true e he]
  rfl

def bhH (P : Program) (S : World → Prop) (ops : Array Oper) (o : Oper) (a : Act) (w : World) (K : VK) : Prop :=
  if Region.wanted o (yielded ops a.tmps) then oneOpH' P ops S a.eval o w K else K undef w

theorem bhH_of {o : Oper} {a : Act} {w : World} {K : VK} : bhH P S ops o a w K ↔
    (match o.op with
     | .load t x => if Region.wanted o (yielded ops a.tmps) then oHL P S t (a.eval x) w K else K undef w
     | _ => match Nat.beq (cls o) 0 with
       | true => bh P ops o a w K
       | false => if Region.wanted o (yielded ops a.tmps) then bh P ops o a w fun v w' => (lateO ops o = true ∨ S w') ∧ K v w' else K undef w) := by
  have hlate : ∀ (b : Bool), (match b with
      | true => oneOp' P noP true a.eval o w K
      | false => oneOp' P noP true a.eval o w fun v w' => S w' ∧ K v w') = oneOp' P noP true a.eval o w fun v w' => (b = true ∨ S w') ∧ K v w' := by
    intro b; cases b <;> simp
  unfold bhH oneOpH'
  simp only [hlate]
  unfold bh
  obtain ⟨dst, op, ty, pos, after, guard⟩ := o
  cases op <;> simp only [] <;> (try split) <;> (try simp only [*]) <;> (try (split <;> simp_all))

theorem cls_load {o : Oper} {t : TypeId} {x : Operand} (h : o.op = .load t x) : cls o = 1 := by simp [cls, h]
theorem load_of_cls {o : Oper} (h : cls o = 1) : ∃ t x, o.op = .load t x := by
  obtain ⟨dst, op, ty, pos, after, guard⟩ := o
  cases op <;> simp only [cls] at h <;> (try (cases h; done))
  case load t x => exact ⟨t, x, rfl⟩
  case call c =>
    exfalso
    obtain ⟨callee, args, ats⟩ := c
    cases callee <;> simp only [] at h
    case builtin b => cases b <;> simp at h
    all_goals (simp at h)

theorem bhH_still {o : Oper} (h : cls o = 0) (a : Act) : (∃ v, ∀ w K, bhH P S ops o a w K ↔ K v w) ∨ (∀ w K, ¬ bhH P S ops o a w K) := by
  have hb : ∀ w K, bhH P S ops o a w K ↔ bh P ops o a w K := by
    intro w K
    rw [bhH_of]
    split
    · rename_i t x hop; rw [cls_load hop] at h; cases h
    · rw [h]
  rcases bh_still (P := P) (ops := ops) h a with ⟨v, hv⟩ | hv
  · exact .inl ⟨v, fun w K => (hb w K).trans (hv w K)⟩
  · exact .inr fun w K => fun hk => hv w K ((hb w K).1 hk)

/-- a load, if anything good comes of it, yields one value wherever 'S' is so -/
theorem bhH_load {o : Oper} (hS : ∃ w, S w) (h : cls o = 1) (a : Act) : (∃ v, ∀ w K, bhH P S ops o a w K ↔ K v w) ∨ (∀ w K, ¬ bhH P S ops o a w K) := by
  obtain ⟨t, x, hop⟩ := load_of_cls h
  have hb : ∀ w K, bhH P S ops o a w K ↔ if Region.wanted o (yielded ops a.tmps) then oHL P S t (a.eval x) w K else K undef w := by
    intro w K; rw [bhH_of]; simp only [hop]
  by_cases hw : Region.wanted o (yielded ops a.tmps) = true
  · simp only [hw, if_true] at hb
    by_cases hx : ∃ v, ∀ w1, S w1 → (Instr.loadAt t (a.eval x)).run P w1 = .ok v w1
    · obtain ⟨v, hv⟩ := hx
      refine .inl ⟨v, fun w K => (hb w K).trans ⟨fun hk => ?_, fun hk => ⟨v, hv, hk⟩⟩⟩
      obtain ⟨u, hu, hk⟩ := hk
      obtain ⟨w0, hw0⟩ := hS
      have := (hu w0 hw0).symm.trans (hv w0 hw0)
      cases this; exact hk
    · exact .inr fun w K hk => by
        obtain ⟨u, hu, _⟩ := (hb w K).1 hk
        exact hx ⟨u, hu⟩
  · simp only [hw] at hb; exact .inl ⟨undef, hb⟩

theorem bhH_mono {o : Oper} {a : Act} {w : World} {K K' : VK} (h : ∀ v w, K v w → K' v w) (hb : bhH P S ops o a w K) : bhH P S ops o a w K' := by
  rw [bhH_of] at hb ⊢
  split at hb
  · split at hb
    · rename_i hw; rw [if_pos hw]; obtain ⟨v, hv, hk⟩ := hb; exact ⟨v, hv, h _ _ hk⟩
    · rename_i hw; rw [if_neg hw]; exact h _ _ hb
  · split at hb
    · exact bh_mono h hb
    · split at hb
      · rename_i hw; rw [if_pos hw]; exact bh_mono (fun v w' hk => ⟨hk.1, h _ _ hk.2⟩) hb
      · rename_i hw; rw [if_neg hw]; exact h _ _ hb

theorem bhH_inh {o : Oper} {a : Act} {w : World} {K : VK} (hb : bhH P S ops o a w K) : ∃ v w, K v w := by
  rw [bhH_of] at hb
  split at hb
  · split at hb
    · obtain ⟨v, _, hk⟩ := hb; exact ⟨_, _, hk⟩
    · exact ⟨_, _, hb⟩
  · split at hb
    · exact bh_inh hb
    · split at hb
      · obtain ⟨v, w', hk⟩ := bh_inh hb; exact ⟨_, _, hk.2⟩
      · exact ⟨_, _, hb⟩

theorem bhH_put {o : Oper} (hs : ∀ cs b, o.op ≠ .select cs b) {a : Act} {d : Option Tmp} {v : Value} (h : ∀ t, d = some t → t ∉ o.looksAt ops) {w : World} {K : VK} :
    bhH P S ops o (a.put d v) w K ↔ bhH P S ops o a w K := by
  rw [bhH_of, bhH_of]
  have hw := wanted_put (ops := ops) o a d v h
  split
  · rename_i t x hop
    have he : (a.put d v).eval x = a.eval x := Act.eval_put fun t' ht' hxt => h t' ht' (by
      subst hxt; exact List.mem_append_left _ (List.mem_filterMap.2 ⟨.tmp t', by rw [hop]; simp [Op.operands], rfl⟩))
    rw [hw, he]
  · split
    · exact bh_put hs h
    · rw [hw]
      split
      · exact bh_put hs h
      · exact Iff.rfl

theorem commuteH (hS : ∃ w, S w) {oi oj : Oper} (a : Act) (w : World) (hc : cls oi = 0 ∨ cls oj = 0 ∨ cls oi = 1 ∨ cls oj = 1) {K : Value → VK}
    (h : bhH P S ops oi a w fun v w' => bhH P S ops oj a w' fun u w'' => K v u w'') : bhH P S ops oj a w fun u w' => bhH P S ops oi a w' fun v w'' => K v u w'' := by
  have hi : ((∃ v, ∀ w K, bhH P S ops oi a w K ↔ K v w) ∨ (∀ w K, ¬ bhH P S ops oi a w K)) ∨ ((∃ v, ∀ w K, bhH P S ops oj a w K ↔ K v w) ∨ (∀ w K, ¬ bhH P S ops oj a w K)) := by
    rcases hc with hc | hc | hc | hc
    · exact .inl (bhH_still hc a)
    · exact .inr (bhH_still hc a)
    · exact .inl (bhH_load hS hc a)
    · exact .inr (bhH_load hS hc a)
  rcases hi with (⟨v, hv⟩ | hb) | (⟨u, hu⟩ | hb)
  · rw [hv] at h; exact bhH_mono (fun u w' hk => by rw [hv]; exact hk) h
  · exact (hb _ _ h).elim
  · rw [hu]; exact bhH_mono (fun v w' hk => by rw [hu] at hk; exact hk) h
  · obtain ⟨v, w', hk⟩ := bhH_inh h; exact (hb _ _ hk).elim

def anyH (P : Program) (S : World → Prop) (ops : Array Oper) (K0 : Act → World → Prop) : Nat → Array Bool → Act → World → Prop
  | 0, listed, a, w => Region.ready .any ops listed = [] ∧ K0 a w
  | fuel + 1, listed, a, w => (Region.ready .any ops listed = [] → K0 a w) ∧
    ∀ i ∈ Region.ready .any ops listed, ∀ o, ops[i]? = some o → bhH P S ops o a w fun v w' => anyH P S ops K0 fuel (listed.setIfInBounds i true) (a.put o.dst v) w'

def txH (P : Program) (S : World → Prop) (ops : Array Oper) (K0 : Act → World → Prop) : List Oper → Act → World → Prop
  | [], a, w => K0 a w
  | o :: l, a, w => bhH P S ops o a w fun v w' => txH P S ops K0 l (a.put o.dst v) w'

theorem pair_readyH (hf : FineH ops) {listed : Array Bool} (hc : Closed ops listed) {i j : Nat} {oi oj : Oper} (hoi : ops[i]? = some oi) (hoj : ops[j]? = some oj) (hij : i < j)
    (hi : listed.getD i false = false) (hj : j ∈ Region.ready .any ops listed) : oi.apart ops oj = true ∧ (cls oi = 0 ∨ cls oj = 0 ∨ cls oi = 1 ∨ cls oj = 1) := by
  have hp := hf.pairs i j oi oj hoi hoj hij
  unfold pairOk at hp
  rw [Bool.or_eq_true] at hp
  rcases hp with hp | hp
  · exfalso
    obtain ⟨_, o', ho', hall⟩ := mem_ready.1 hj
    have : o' = oj := Option.some.inj (ho'.symm.trans hoj)
    subst this
    have := masks_spec ops j o' i hoj (inMask_iff hp) listed hc hall
    rw [hi] at this; cases this
  · simp only [Bool.and_eq_true, Bool.or_eq_true, beq_iff_eq] at hp
    exact ⟨hp.1, by rcases hp.2 with (h | h) | h | h <;> simp [*]⟩

theorem anyH_first (hS : ∃ w, S w) (hf : FineH ops) {i : Nat} {oi : Oper} (hoi : ops[i]? = some oi) : ∀ (fuel : Nat) (listed : Array Bool) (a : Act) (w : World),
    Closed ops listed → (∀ j, j < i → j < ops.size → listed.getD j true = true) → i ∈ Region.ready .any ops listed →
    bhH P S ops oi a w (fun v w' => anyH P S ops K0 fuel (listed.setIfInBounds i true) (a.put oi.dst v) w') → anyH P S ops K0 (fuel + 1) listed a w := by
  intro fuel
  induction fuel with
  | zero =>
    intro listed a w hc hlow hi h
    refine ⟨fun h0 => (by rw [h0] at hi; cases hi), fun j hj o ho => ?_⟩
    by_cases hji : j = i
    · subst hji
      have : o = oi := Option.some.inj (ho.symm.trans hoi)
      subst this; exact h
    · exfalso
      obtain ⟨v, w', hk⟩ := bhH_inh h
      have := ready_mono hj hji
      rw [hk.1] at this; cases this
  | succ fuel ih =>
    intro listed a w hc hlow hi h
    refine ⟨fun h0 => (by rw [h0] at hi; cases hi), fun j hj oj hoj => ?_⟩
    by_cases hji : j = i
    · subst hji
      have : oj = oi := Option.some.inj (hoj.symm.trans hoi)
      subst this; exact h
    · have hjr := mem_ready.1 hj
      have hij : i < j := by
        rcases Nat.lt_or_ge i j with h' | h'
        · exact h'
        · exfalso
          have hjs : j < ops.size := (Array.getElem?_eq_some_iff.1 hoj).1
          have := hlow j (by omega) hjs
          rw [hjr.1] at this; cases this
      obtain ⟨hap, hcl⟩ := pair_readyH hf hc hoi hoj hij (getD_false_of_true (mem_ready.1 hi).1) hj
      obtain ⟨h1, h2, h3⟩ := Oper.apart_spec hap
      have hsi := plain_select (hf.plain i oi hoi)
      have hsj := plain_select (hf.plain j oj hoj)
      have hh : bhH P S ops oi a w fun v w' => bhH P S ops oj a w' fun u w'' => anyH P S ops K0 fuel ((listed.setIfInBounds i true).setIfInBounds j true) ((a.put oi.dst v).put oj.dst u) w'' := by
        refine bhH_mono (fun v w' hk => ?_) h
        have := hk.2 j (ready_mono hj hji) oj hoj
        rw [bhH_put hsj h1] at this
        exact this
      have hh' := commuteH hS a w hcl (K := fun v u w'' => anyH P S ops K0 fuel ((listed.setIfInBounds i true).setIfInBounds j true) ((a.put oi.dst v).put oj.dst u) w'') hh
      refine bhH_mono (fun u w' hk => ?_) hh'
      refine ih (listed.setIfInBounds j true) (a.put oj.dst u) w' (closed_set hc hj) (fun k hk hks => ?_) (ready_mono hi (fun e => hji e.symm)) ?_
      · rw [getD_set_ne true (by omega)]; exact hlow k hk hks
      · rw [bhH_put hsi h3]
        refine bhH_mono (fun v w'' hk' => ?_) hk
        rw [Array.setIfInBounds_comm _ _ hji, ← Act.put_comm a v u h2]
        exact hk'

theorem anyH_text (hS : ∃ w, S w) (hf : FineH ops) : ∀ (l : List Oper) (k : Nat) (listed : Array Bool) (a : Act) (w : World), (∀ j : Nat, l[j]? = ops[k + j]?) → listed.size = ops.size →
    (∀ j, j < ops.size → listed.getD j true = decide (j < k)) → txH P S ops K0 l a w → anyH P S ops K0 l.length listed a w := by
  intro l
  induction l with
  | nil =>
    intro k listed a w hl hs hlow h
    refine ⟨?_, h⟩
    rw [List.eq_nil_iff_forall_not_mem]
    intro j hj
    obtain ⟨h0, o, ho, _⟩ := mem_ready.1 hj
    have hjs : j < ops.size := (Array.getElem?_eq_some_iff.1 ho).1
    have := hlow j hjs
    rw [h0] at this
    have hk : k ≤ j := by have := of_decide_eq_false this.symm; omega
    have := hl (j - k)
    rw [show k + (j - k) = j by omega, ho] at this
    simp at this
  | cons o l ih =>
    intro k listed a w hl hs hlow h
    have h0 : ops[k]? = some o := by simpa using (hl 0).symm
    have hks : k < ops.size := (Array.getElem?_eq_some_iff.1 h0).1
    have hgetD : ∀ j, j < k → listed.getD j false = true := fun j hj => by
      have h := hlow j (by omega)
      have hjs : j < listed.size := by omega
      simp [hjs, hj] at h ⊢; exact h
    have hc : Closed ops listed := by
      intro j oj hj hl' e he hb
      have hjs : j < ops.size := (Array.getElem?_eq_some_iff.1 hj).1
      have hjk : j < k := by
        have h := hlow j hjs
        have hjs' : j < listed.size := by omega
        simp [hjs'] at h hl'
        rw [hl'] at h
        exact of_decide_eq_true h.symm
      exact hgetD _ (Nat.lt_trans (hf.edges j oj hj e he hb) hjk)
    refine anyH_first hS hf h0 l.length listed a w hc (fun j hj hjs => by rw [hlow j hjs]; simp [hj]) ?_ ?_
    · exact mem_ready.2 ⟨by rw [hlow k hks]; simp, o, h0, fun e he hb => hgetD _ (hf.edges k o h0 e he hb)⟩
    · refine bhH_mono (fun v w' hk => ih (k + 1) _ _ _ (fun j => by have := hl (j + 1); rw [show k + 1 + j = k + (j + 1) by omega]; simpa using this) (by simp [hs]) (fun j hjs => ?_) hk) h
      by_cases hjk : k = j
      · subst hjk; simp [hs, hks]
      · rw [getD_set_ne true hjk, hlow j hjs]
        congr 1
        exact propext ⟨fun h => by omega, fun h => by omega⟩

def LoadsIn (ops : Array Oper) (listed : Array Bool) : Prop := ∀ (j : Nat) (o : Oper), ops[j]? = some o → cls o = 1 → listed.getD j true = true

theorem loadsIn_spec {m : Nat} : ∀ (l : List Oper) (k : Nat), loadsIn m l k = true → ∀ j o, l[j]? = some o → cls o = 1 → inMask m (k + j) = true := by
  intro l
  induction l with
  | nil => intro k _ j o h; simp at h
  | cons x l ih =>
    intro k h j o hj hc
    simp only [loadsIn, Bool.and_eq_true] at h
    cases j with
    | zero =>
      simp at hj; subst hj
      obtain ⟨t, y, hop⟩ := load_of_cls hc
      have := h.1
      simpa [hop] using this
    | succ j => have := ih (k + 1) h.2 j o (by simpa using hj) hc; rwa [show k + 1 + j = k + (j + 1) by omega] at this

theorem masksF_len (l : List Oper) : ∀ (acc : List Nat), (masksF l acc.length acc).length = acc.length + l.length := fun acc => (masksF_eq l acc).2

theorem lateO_spec {listed : Array Bool} (hc : Closed ops listed) {i : Nat} {o : Oper} (ho : ops[i]? = some o) (hi : i ∈ Region.ready .any ops listed) (hl : lateO ops o = true) : LoadsIn ops (listed.setIfInBounds i true) := by
  intro j oj hj hcj
  have hm := loadsIn_spec ops.toList 0 hl j oj (by simpa using hj) hcj
  rw [Nat.zero_add] at hm
  have hlen : (masksF ops.toList 0 []).length = ops.size := by have := masksF_len ops.toList []; simpa using this
  have e : maskF (masksF ops.toList 0 []) ops.size o = maskOf (masksGo ops.toList []) o := by
    have h1 := maskF_eq (masksF ops.toList 0 []) o
    rw [hlen] at h1
    rw [h1]
    have h2 := (masksF_eq ops.toList []).1
    have h3 : (masksF ops.toList 0 []).reverse = masksGo ops.toList [] := by simpa using h2
    rw [h3]
  rw [e] at hm
  have hmok : MaskOk ops (masksGo ops.toList []) := (masksGo_spec (ops := ops) ops.toList [] (fun j => by simp) (maskOk_nil ops) (fun j o _ hlt => by simp at hlt)).1
  obtain ⟨_, o', ho', hall⟩ := mem_ready.1 hi
  have : o' = o := Option.some.inj (ho'.symm.trans ho)
  subst this
  have h1 := getD_set_true (i := i) (maskOk_of_direct hmok (inMask_iff hm) hc hall)
  rcases Nat.lt_or_ge j (listed.setIfInBounds i true).size with h' | h'
  · rw [Array.getD_eq_getD_getElem?, Array.getElem?_eq_getElem h'] at h1 ⊢
    simpa using h1
  · rw [Array.getD_eq_getD_getElem?, Array.getElem?_eq_none h']; rfl

theorem wpAny_of_anyH {Q' : Exit → Act → World → Prop} (hQ : ∀ a w, K0 a w → Q' .normal a w) : ∀ (fuel : Nat) (listed : Array Bool) (a : Act) (w : World), Closed ops listed → (LoadsIn ops listed ∨ S w) →
    anyH P S ops K0 fuel listed a w → wpAny P .any ops Q' fuel listed a w
  | 0, _, _, _, _, _, h => ⟨h.1, hQ _ _ h.2⟩
  | fuel + 1, listed, a, w, hcl, hS, h => ⟨fun h0 => hQ _ _ (h.1 h0), fun i hi => by
      obtain ⟨hnl, o, ho, _⟩ := mem_ready.1 hi
      have hb := h.2 i hi o ho
      have hcl' := closed_set hcl hi
      have hkeep : ∀ w', (LoadsIn ops listed ∨ S w') → (LoadsIn ops (listed.setIfInBounds i true) ∨ S w') := fun w' h => h.imp (fun h j oj hj hc => by
        by_cases hij : i = j
        · subst hij
          have : i < listed.size := by
            rcases Nat.lt_or_ge i listed.size with h' | h'
            · exact h'
            · simp [Array.getElem?_eq_none h'] at hnl
          simp [this]
        · rw [getD_set_ne true hij]; exact h j oj hj hc) id
      unfold wpOp
      simp only [ho]
      rw [bhH_of] at hb
      by_cases hw : Region.wanted o (yielded ops a.tmps) = true
      · rw [if_pos hw]
        refine .inl ?_
        split at hb
        · rename_i t x hop
          rw [if_pos hw] at hb
          obtain ⟨v, hv, hk⟩ := hb
          have hSw : S w := by
            rcases hS with h' | h'
            · have := h' i o ho (cls_load hop)
              rw [hnl] at this; cases this
            · exact h'
          unfold Oper.wp execOp
          simp only [hop, Sem.run_bind, hv w hSw, Result.andThen_ok]
          exact wpAny_of_anyH hQ fuel _ _ _ hcl' (.inr hSw) hk
        · rename_i hop
          split at hb
          · rename_i hc
            rcases bh_still (P := P) (ops := ops) (Nat.eq_of_beq_eq_true hc) a with ⟨v, hv⟩ | hbad
            · have hk := (hv _ _).1 hb
              have hb' : bh P ops o a w fun u w' => wpAny P .any ops Q' fuel (listed.setIfInBounds i true) (a.put o.dst u) w' := (hv _ _).2 (wpAny_of_anyH hQ fuel _ _ _ hcl' (hkeep _ hS) hk)
              unfold bh at hb'
              rw [if_pos hw, oneOp_true] at hb'
              split at hb'
              · rename_i hop'; exact (hop _ _ hop').elim
              · exact upon_of_fin0 (fun v w' hk => hk) _ hb'.2
            · exact (hbad _ _ hb).elim
          · rw [if_pos hw] at hb
            unfold bh at hb
            rw [if_pos hw, oneOp_true] at hb
            split at hb
            · rename_i hop'; exact (hop _ _ hop').elim
            · refine upon_of_fin0 (fun v w' hk => wpAny_of_anyH hQ fuel _ _ _ hcl' ?_ hk.2) _ hb.2
              rcases hk.1 with hl | hl
              · exact .inl (lateO_spec hcl ho hi hl)
              · exact .inr hl
      · rw [if_neg hw]
        have hk : anyH P S ops K0 fuel (listed.setIfInBounds i true) (a.put o.dst undef) w := by
          split at hb
          · rw [if_neg hw] at hb; exact hb
          · split at hb
            · unfold bh at hb; rw [if_neg hw] at hb; exact hb
            · rw [if_neg hw] at hb; exact hb
        exact wpAny_of_anyH hQ fuel _ _ _ hcl' (hkeep _ hS) hk⟩

/-! ### several orders -/
def txT (P : Program) (S : World → Prop) (ops : Array Oper) (K0 : Act → World → Prop) : Tr → Act → World → Prop
  | .nil, a, w => K0 a w
  | .one i t, a, w => ∃ o, ops[i]? = some o ∧ bhH P S ops o a w fun v w' => txT P S ops K0 t (a.put o.dst v) w'
  | .alt i t r, a, w => (∃ o, ops[i]? = some o ∧ bhH P S ops o a w fun v w' => txT P S ops K0 t (a.put o.dst v) w') ∧ txT P S ops K0 r a w

/-- 'i' may be taken first: whatever else is not listed needs it, or commutes with it -/
theorem anyH_free (hS : ∃ w, S w) (hpl : ∀ (j : Nat) (o : Oper), ops[j]? = some o → plainOp o = true) {i : Nat} {oi : Oper} (hoi : ops[i]? = some oi) : ∀ (fuel : Nat) (listed : Array Bool) (a : Act) (w : World),
    Closed ops listed → (∀ j oj, ops[j]? = some oj → listed.getD j true = false → j ≠ i → ((masksGo ops.toList []).getD j 0).testBit i = true ∨ (oi.apart ops oj = true ∧ (cls oi = 0 ∨ cls oj = 0 ∨ cls oi = 1 ∨ cls oj = 1))) → i ∈ Region.ready .any ops listed →
    bhH P S ops oi a w (fun v w' => anyH P S ops K0 fuel (listed.setIfInBounds i true) (a.put oi.dst v) w') → anyH P S ops K0 (fuel + 1) listed a w := by
  intro fuel
  induction fuel with
  | zero =>
    intro listed a w hc hlow hi h
    refine ⟨fun h0 => (by rw [h0] at hi; cases hi), fun j hj o ho => ?_⟩
    by_cases hji : j = i
    · subst hji
      have : o = oi := Option.some.inj (ho.symm.trans hoi)
      subst this; exact h
    · exfalso
      obtain ⟨v, w', hk⟩ := bhH_inh h
      have := ready_mono hj hji
      rw [hk.1] at this; cases this
  | succ fuel ih =>
    intro listed a w hc hlow hi h
    refine ⟨fun h0 => (by rw [h0] at hi; cases hi), fun j hj oj hoj => ?_⟩
    by_cases hji : j = i
    · subst hji
      have : oj = oi := Option.some.inj (hoj.symm.trans hoi)
      subst this; exact h
    · have hjr := mem_ready.1 hj
      have hpair : oi.apart ops oj = true ∧ (cls oi = 0 ∨ cls oj = 0 ∨ cls oi = 1 ∨ cls oj = 1) := by
        rcases hlow j oj hoj hjr.1 hji with hm | hp
        · exfalso
          obtain ⟨_, o', ho', hall⟩ := hjr
          have : o' = oj := Option.some.inj (ho'.symm.trans hoj)
          subst this
          have := masks_spec ops j o' i hoj hm listed hc hall
          rw [getD_false_of_true (mem_ready.1 hi).1] at this; cases this
        · exact hp
      obtain ⟨hap, hcl⟩ := hpair
      obtain ⟨h1, h2, h3⟩ := Oper.apart_spec hap
      have hsi := plain_select (hpl i oi hoi)
      have hsj := plain_select (hpl j oj hoj)
      have hh : bhH P S ops oi a w fun v w' => bhH P S ops oj a w' fun u w'' => anyH P S ops K0 fuel ((listed.setIfInBounds i true).setIfInBounds j true) ((a.put oi.dst v).put oj.dst u) w'' := by
        refine bhH_mono (fun v w' hk => ?_) h
        have := hk.2 j (ready_mono hj hji) oj hoj
        rw [bhH_put hsj h1] at this
        exact this
      have hh' := commuteH hS a w hcl (K := fun v u w'' => anyH P S ops K0 fuel ((listed.setIfInBounds i true).setIfInBounds j true) ((a.put oi.dst v).put oj.dst u) w'') hh
      refine bhH_mono (fun u w' hk => ?_) hh'
      refine ih (listed.setIfInBounds j true) (a.put oj.dst u) w' (closed_set hc hj) (fun k ok hok hk hki => ?_) (ready_mono hi (fun e => hji e.symm)) ?_
      · refine hlow k ok hok ?_ hki
        by_cases hjk : j = k
        · subst hjk; exact hjr.1
        · rwa [getD_set_ne true hjk] at hk
      · rw [bhH_put hsi h3]
        refine bhH_mono (fun v w'' hk' => ?_) hk
        rw [Array.setIfInBounds_comm _ _ hji, ← Act.put_comm a v u h2]
        exact hk'

theorem inMask_eq (m t : Nat) : inMask m t = m.testBit t := by
  unfold inMask Nat.testBit
  have : (m >>> t) &&& 1 = 0 ∨ (m >>> t) &&& 1 = 1 := by
    rw [Nat.and_one_is_mod]; omega
  have h1 : Nat.land (Nat.shiftRight m t) 1 = (m >>> t) &&& 1 := rfl
  have h2 : 1 &&& (m >>> t) = (m >>> t) &&& 1 := Nat.and_comm _ _
  rw [h1, h2]
  rcases this with h | h <;> rw [h] <;> rfl

structure Lst (ops : Array Oper) (m : Nat) (listed : Array Bool) : Prop where
  size : listed.size = ops.size
  get : ∀ j, j < ops.size → listed.getD j true = inMask m j
theorem Lst.getF {m : Nat} {listed : Array Bool} (h : Lst ops m listed) {j : Nat} (hj : j < ops.size) : listed.getD j false = inMask m j := by
  have := h.get j hj
  have hs : j < listed.size := by rw [h.size]; exact hj
  simp [hs] at this ⊢; exact this
theorem Lst.set {m : Nat} {listed : Array Bool} (h : Lst ops m listed) {i : Nat} (hi : i < ops.size) : Lst ops (m ||| (1 <<< i)) (listed.setIfInBounds i true) := by
  refine ⟨by simp [h.size], fun j hj => ?_⟩
  rw [inMask_eq, Nat.testBit_or, Nat.one_shiftLeft, Nat.testBit_two_pow, ← inMask_eq, ← h.get j hj]
  by_cases hij : i = j
  · subst hij; simp [h.size, hi]
  · rw [getD_set_ne true hij]; simp [hij]
theorem readyB_spec {m i : Nat} {o : Oper} {listed : Array Bool} (hl : Lst ops m listed) (he : ∀ (j : Nat) (o : Oper), ops[j]? = some o → ∀ e ∈ o.after, Region.binds .any e = true → e.on < j) (ho : ops[i]? = some o) : readyB m i o = true ↔ i ∈ Region.ready .any ops listed := by
  have hi : i < ops.size := (Array.getElem?_eq_some_iff.1 ho).1
  rw [mem_ready]
  unfold readyB
  simp only [Bool.and_eq_true, Bool.not_eq_true', List.all_eq_true, Bool.or_eq_true]
  constructor
  · rintro ⟨h1, h2⟩
    refine ⟨by rw [hl.get i hi]; exact h1, o, ho, fun e hm hb => ?_⟩
    have hlt := he i o ho e hm hb
    rw [hl.getF (by omega)]
    rcases h2 e (by simpa using hm) with h' | h'
    · rw [hb] at h'; cases h'
    · exact h'
  · rintro ⟨h1, o', ho', h2⟩
    have : o' = o := Option.some.inj (ho'.symm.trans ho)
    subst this
    refine ⟨by rw [← hl.get i hi]; exact h1, fun e hm => ?_⟩
    have hm' : e ∈ o'.after := by simpa using hm
    cases hb : Region.binds .any e with
    | false => left; rfl
    | true =>
      right
      have hlt := he i o' ho' e hm' hb
      rw [← hl.getF (by omega)]; exact h2 e hm' hb
theorem Lst.closed {m : Nat} {listed : Array Bool} (hc : Closed ops listed) {i : Nat} (hi : i ∈ Region.ready .any ops listed) : Closed ops (listed.setIfInBounds i true) := closed_set hc hi

theorem row_spec {α : Type} {f : α → Nat → Bool} {g : List α → Nat → Bool} (hg0 : ∀ k, g [] k = true) (hg : ∀ x l k, g (x :: l) k = (f x k && g l (k + 1))) : ∀ (l : List α) (k : Nat), g l k = true → ∀ j x, l[j]? = some x → f x (k + j) = true := by
  intro l
  induction l with
  | nil => intro k _ j x h; simp at h
  | cons y l ih =>
    intro k h j x hj
    rw [hg, Bool.and_eq_true] at h
    cases j with
    | zero => simp at hj; subst hj; exact h.1
    | succ j => have := ih (k + 1) h.2 j x (by simpa using hj); rwa [show k + 1 + j = k + (j + 1) by omega] at this

theorem okT_sound (hS : ∃ w, S w) (hpl : ∀ (j : Nat) (o : Oper), ops[j]? = some o → plainOp o = true) (he : ∀ (j : Nat) (o : Oper), ops[j]? = some o → ∀ e ∈ o.after, Region.binds .any e = true → e.on < j) :
    ∀ (t : Tr) (f : Bool) (n m : Nat) (listed : Array Bool), okT ops (fun j => (masksGo ops.toList []).getD j 0) t f n m = true → Lst ops m listed → Closed ops listed → ∀ (a : Act) (w : World), txT P S ops K0 t a w →
      (f = false → anyH P S ops K0 n listed a w) ∧ (f = true → ∀ i, isHead i t = true → ∀ o, ops[i]? = some o → ∃ n', n = n' + 1 ∧ bhH P S ops o a w fun v w' => anyH P S ops K0 n' (listed.setIfInBounds i true) (a.put o.dst v) w') := by
  intro t
  induction t with
  | nil =>
    intro f n m listed hok hl hc a w h
    simp only [okT, Bool.and_eq_true, Bool.not_eq_true', Nat.beq_eq_true_eq] at hok
    obtain ⟨⟨rfl, hn⟩, hfull⟩ := hok
    have hn0 : n = 0 := by simpa using hn
    subst hn0
    refine ⟨fun _ => ⟨?_, h⟩, fun h0 => by cases h0⟩
    rw [List.eq_nil_iff_forall_not_mem]
    intro j hj
    obtain ⟨h0, o, ho, _⟩ := mem_ready.1 hj
    have hjs : j < ops.size := (Array.getElem?_eq_some_iff.1 ho).1
    have := row_spec (f := fun _ j => inMask m j) (g := fullRow m) (fun _ => rfl) (fun _ _ _ => rfl) ops.toList 0 hfull j o (by simpa using ho)
    rw [Nat.zero_add] at this
    rw [hl.get j hjs, this] at h0; cases h0
  | one i t ih =>
    intro f n m listed hok hl hc a w h
    obtain ⟨o, ho, h⟩ := h
    cases n with
    | zero => simp [okT] at hok
    | succ n =>
    simp only [okT, ho, Bool.and_eq_true] at hok
    obtain ⟨⟨hr, hf⟩, hok'⟩ := hok
    have hi : i < ops.size := (Array.getElem?_eq_some_iff.1 ho).1
    have hrd := (readyB_spec hl he ho).1 hr
    have hrec : bhH P S ops o a w fun v w' => anyH P S ops K0 n (listed.setIfInBounds i true) (a.put o.dst v) w' :=
      bhH_mono (fun v w' hk => (ih false n _ _ hok' (hl.set hi) (closed_set hc hrd) _ _ hk).1 rfl) h
    refine ⟨fun hff => ?_, fun _ j hj o' ho' => ?_⟩
    · subst hff
      simp only [Bool.false_or] at hf
      refine anyH_free hS hpl ho n listed a w hc (fun j oj hoj hlj hji => ?_) hrd hrec
      have := row_spec (f := fun oj j => (inMask m j || Nat.beq j i || inMask ((masksGo ops.toList []).getD j 0) i || (o.apart ops oj && (cls o == 0 || cls oj == 0 || cls o == 1 || cls oj == 1)))) (g := freeRow ops (fun j => (masksGo ops.toList []).getD j 0) m i o) (fun _ => rfl) (fun _ _ _ => rfl) ops.toList 0 hf j oj (by simpa using hoj)
      rw [Nat.zero_add] at this
      have hjs : j < ops.size := (Array.getElem?_eq_some_iff.1 hoj).1
      rw [hl.get j hjs] at hlj
      simp only [hlj, Bool.false_or, nbeq_ne hji, Bool.or_eq_true, Bool.and_eq_true, beq_iff_eq] at this
      rcases this with h1 | ⟨h1, h2⟩
      · left; rw [← inMask_eq]; exact h1
      · right; exact ⟨h1, by rcases h2 with ((h2 | h2) | h2) | h2 <;> simp [h2]⟩
    · have : i = j := Nat.eq_of_beq_eq_true hj
      subst this
      have : o' = o := Option.some.inj (ho'.symm.trans ho)
      subst this
      exact ⟨n, rfl, hrec⟩
  | alt i t r iht ihr =>
    intro f n m listed hok hl hc a w h
    obtain ⟨⟨o, ho, h⟩, hrr⟩ := h
    cases n with
    | zero => simp [okT] at hok
    | succ n =>
    simp only [okT, ho, Bool.and_eq_true] at hok
    obtain ⟨⟨⟨hcov, hr⟩, hokt⟩, hokr⟩ := hok
    have hi : i < ops.size := (Array.getElem?_eq_some_iff.1 ho).1
    have hrd := (readyB_spec hl he ho).1 hr
    have hrec : bhH P S ops o a w fun v w' => anyH P S ops K0 n (listed.setIfInBounds i true) (a.put o.dst v) w' :=
      bhH_mono (fun v w' hk => (iht false n _ _ hokt (hl.set hi) (closed_set hc hrd) _ _ hk).1 rfl) h
    have hrest := (ihr true (n + 1) m listed hokr hl hc a w hrr).2 rfl
    have hall : ∀ j, isHead j (.alt i t r) = true → ∀ o', ops[j]? = some o' → bhH P S ops o' a w fun v w' => anyH P S ops K0 n (listed.setIfInBounds j true) (a.put o'.dst v) w' := by
      intro j hj o' ho'
      simp only [isHead, Bool.or_eq_true] at hj
      rcases hj with hj | hj
      · have : i = j := Nat.eq_of_beq_eq_true hj
        subst this
        have : o' = o := Option.some.inj (ho'.symm.trans ho)
        subst this
        exact hrec
      · obtain ⟨n', hn', hb⟩ := hrest j hj o' ho'
        have : n' = n := by omega
        subst this; exact hb
    refine ⟨fun hff => ?_, fun _ j hj o' ho' => ⟨n, rfl, hall j hj o' ho'⟩⟩
    subst hff
    simp only [Bool.false_or] at hcov
    refine ⟨fun h0 => (by rw [h0] at hrd; cases hrd), fun j hj o' ho' => hall j ?_ o' ho'⟩
    have := row_spec (f := fun o j => (!(readyB m j o) || isHead j (.alt i t r))) (g := coverRow m (.alt i t r)) (fun _ => rfl) (fun _ _ _ => rfl) ops.toList 0 hcov j o' (by simpa using ho')
    rw [Nat.zero_add, (readyB_spec hl he ho').2 hj] at this
    simpa using this

theorem txH_of_WlistH {n : Nat} {Q : Exit → Env → World → Prop} (hd : dstsOk n ops) {ws : List Nat} : ∀ (l : List Oper) (ρ0 : Env), (∀ o ∈ l, ∃ j : Nat, ops[j]? = some o) → (∀ o ∈ l, ∀ t, o.dst = some t → t ∈ ws) → ∀ (ρ : Env) (w : World) (a : Act), Rel n a ρ → (∀ t, t ∉ ws → ρ t = ρ0 t) →
    WlistH P ops (Q .normal) S l ρ w → txH P S ops (fun a w => ∃ ρ', Rel n a ρ' ∧ (∀ t, t ∉ ws → ρ' t = ρ0 t) ∧ Q .normal ρ' w) l a w := by
  intro l ρ0
  induction l with
  | nil => intro _ _ ρ w a hr ha h; exact ⟨ρ, hr, ha, h⟩
  | cons o l ih =>
    intro hm hw ρ w a hr ha h
    have ih' := ih (fun o' h' => hm o' (List.mem_cons_of_mem _ h')) (fun o' h' => hw o' (List.mem_cons_of_mem _ h'))
    obtain ⟨jo, hjo⟩ := hm o (List.mem_cons_self ..)
    have hdo : ∀ t, o.dst = some t → t < n := fun t ht => hd jo t (by simp [hjo, ht])
    have next : ∀ v w', WlistH P ops (Q .normal) S l (pt ρ o.dst v) w' → txH P S ops (fun a w => ∃ ρ', Rel n a ρ' ∧ (∀ t, t ∉ ws → ρ' t = ρ0 t) ∧ Q .normal ρ' w) l (a.put o.dst v) w' := by
      intro v w' h'
      refine ih' _ _ _ (hr.put _ hdo v) (fun t ht => ?_) h'
      cases hdd : o.dst with
      | none => exact ha t ht
      | some d =>
        have : t ≠ d := fun e => ht (e ▸ hw o (List.mem_cons_self ..) d hdd)
        simp only [pt, nbeq_ne this, cond_false]; exact ha t ht
    have run : Region.wanted o (yielded ops a.tmps) = true → oneOpH' P ops S (ev ρ) o w (fun v w' => WlistH P ops (Q .normal) S l (pt ρ o.dst v) w') → bhH P S ops o a w fun v w' => txH P S ops (fun a w => ∃ ρ', Rel n a ρ' ∧ (∀ t, t ∉ ws → ρ' t = ρ0 t) ∧ Q .normal ρ' w) l (a.put o.dst v) w' := by
      intro hwt hk
      have : bhH P S ops o a w (fun v w' => WlistH P ops (Q .normal) S l (pt ρ o.dst v) w') := by
        unfold bhH; rw [if_pos hwt, hr.eval]; exact hk
      exact bhH_mono next this
    unfold txH
    unfold WlistH at h
    simp only [oneOpH_eq P ops S _ (ev_func _)] at h
    cases hg : o.guard with
    | none =>
      simp only [hg] at h
      exact run (wanted_none hg _) h
    | some g =>
      obtain ⟨j, want⟩ := g
      simp only [hg] at h
      cases hj : ((ops[j]? : Option Oper)).bind (fun o => o.dst) with
      | none => simp only [hj] at h
      | some t =>
        simp only [hj] at h
        have hwt := wanted_some hr hg hj (hd j t hj)
        cases hb : isB (ρ t) want with
        | true =>
          simp only [hb, oG] at h
          exact run (hwt.trans hb) h
        | false =>
          simp only [hb, oG] at h
          unfold bhH
          rw [if_neg (by rw [hwt, hb]; simp)]
          exact next _ _ h

theorem txT_of_WT {n : Nat} {Q : Exit → Env → World → Prop} (hd : dstsOk n ops) {ws : List Nat} (ρ0 : Env) (hw : ∀ o ∈ ops.toList, ∀ t, o.dst = some t → t ∈ ws) : ∀ (tr : Tr) (ρ : Env) (w : World) (a : Act), Rel n a ρ → (∀ t, t ∉ ws → ρ t = ρ0 t) →
    WT P ops (Q .normal) S tr ρ w → txT P S ops (fun a w => ∃ ρ', Rel n a ρ' ∧ (∀ t, t ∉ ws → ρ' t = ρ0 t) ∧ Q .normal ρ' w) tr a w := by
  have step : ∀ (i : Nat) (o : Oper) (t : Tr), ops[i]? = some o →
      (∀ (ρ : Env) (w : World) (a : Act), Rel n a ρ → (∀ t, t ∉ ws → ρ t = ρ0 t) → WT P ops (Q .normal) S t ρ w → txT P S ops (fun a w => ∃ ρ', Rel n a ρ' ∧ (∀ t, t ∉ ws → ρ' t = ρ0 t) ∧ Q .normal ρ' w) t a w) →
      ∀ (ρ : Env) (w : World) (a : Act), Rel n a ρ → (∀ t, t ∉ ws → ρ t = ρ0 t) → stepT P ops S o ρ w (fun ρ' w' => WT P ops (Q .normal) S t ρ' w') →
      bhH P S ops o a w fun v w' => txT P S ops (fun a w => ∃ ρ', Rel n a ρ' ∧ (∀ t, t ∉ ws → ρ' t = ρ0 t) ∧ Q .normal ρ' w) t (a.put o.dst v) w' := by
    intro i o t hio ih ρ w a hr ha h
    have hdo : ∀ t, o.dst = some t → t < n := fun t ht => hd i t (by simp [hio, ht])
    have hom : o ∈ ops.toList := by
      obtain ⟨hlt, rfl⟩ := Array.getElem?_eq_some_iff.1 hio
      simp
    have next : ∀ v w', WT P ops (Q .normal) S t (pt ρ o.dst v) w' → txT P S ops (fun a w => ∃ ρ', Rel n a ρ' ∧ (∀ t, t ∉ ws → ρ' t = ρ0 t) ∧ Q .normal ρ' w) t (a.put o.dst v) w' := by
      intro v w' h'
      refine ih _ _ _ (hr.put _ hdo v) (fun t ht => ?_) h'
      cases hdd : o.dst with
      | none => exact ha t ht
      | some d =>
        have : t ≠ d := fun e => ht (e ▸ hw o hom d hdd)
        simp only [pt, nbeq_ne this, cond_false]; exact ha t ht
    have run : Region.wanted o (yielded ops a.tmps) = true → oneOpH' P ops S (ev ρ) o w (fun v w' => WT P ops (Q .normal) S t (pt ρ o.dst v) w') → bhH P S ops o a w fun v w' => txT P S ops (fun a w => ∃ ρ', Rel n a ρ' ∧ (∀ t, t ∉ ws → ρ' t = ρ0 t) ∧ Q .normal ρ' w) t (a.put o.dst v) w' := by
      intro hwt hk
      have : bhH P S ops o a w (fun v w' => WT P ops (Q .normal) S t (pt ρ o.dst v) w') := by
        unfold bhH; rw [if_pos hwt, hr.eval]; exact hk
      exact bhH_mono next this
    unfold stepT at h
    simp only [oneOpH_eq P ops S _ (ev_func _)] at h
    cases hg : o.guard with
    | none =>
      simp only [hg] at h
      exact run (wanted_none hg _) h
    | some g =>
      obtain ⟨j, want⟩ := g
      simp only [hg] at h
      cases hj : ((ops[j]? : Option Oper)).bind (fun o => o.dst) with
      | none => simp only [hj] at h
      | some t =>
        simp only [hj] at h
        have hwt := wanted_some hr hg hj (hd j t hj)
        cases hb : isB (ρ t) want with
        | true =>
          simp only [hb, oG] at h
          exact run (hwt.trans hb) h
        | false =>
          simp only [hb, oG] at h
          unfold bhH
          rw [if_neg (by rw [hwt, hb]; simp)]
          exact next _ _ h
  intro tr
  induction tr with
  | nil => intro ρ w a hr ha h; exact ⟨ρ, hr, ha, h⟩
  | one i t ih =>
    intro ρ w a hr ha h
    unfold WT at h
    cases hio : ops[i]? with
    | none => simp only [hio] at h
    | some o => simp only [hio] at h; exact ⟨o, hio, step i o t hio ih ρ w a hr ha h⟩
  | alt i t r iht ihr =>
    intro ρ w a hr ha h
    unfold WT at h
    cases hio : ops[i]? with
    | none => simp only [hio] at h
    | some o => simp only [hio] at h; exact ⟨⟨o, hio, step i o t hio iht ρ w a hr ha h.1⟩, ihr ρ w a hr ha h.2⟩
end held

section quiet
variable {P : Program} {ops : Array Oper} {K0 : Act → Prop} {w : World}

/-- an operation that neither calls nor enters -/
theorem exec_value {e : Operand → Value} {o : Oper} (h : quietOp o = true) : ∃ s : Sem Value, ∀ w K, fin P K noP ((execOp e o).run P w) ↔ fin P K noP ((do pure (Next.value (← s)) : Sem Next).run P w) := by
  unfold quietOp at h
  simp only [Bool.and_eq_true, Bool.or_eq_true] at h
  have hc : cls o = 0 ∨ cls o = 1 := by
    rcases h.1.2 with h | h
    · exact .inl (Nat.eq_of_beq_eq_true h)
    · exact .inr (Nat.eq_of_beq_eq_true h)
  obtain ⟨dst, op, ty, pos, after, guard⟩ := o
  cases op <;> simp only [cls] at hc <;> (try (rcases hc with hc | hc <;> cases hc; done))
  case nilCheck x => exact absurd h.2 (by simp)
  case call c =>
    obtain ⟨callee, args, ats⟩ := c
    cases callee with
    | value f => simp at hc
    | invoke r m => simp at hc
    | builtin b =>
      cases b <;> simp at hc <;> exact ⟨_, fun w K => Iff.rfl⟩
  case move x => exact ⟨pure (e x), fun w K => Iff.rfl⟩
  case assign x => exact ⟨pure (e x), fun w K => Iff.rfl⟩
  case pick c a b =>
    refine ⟨do if ← asBool (e c) then pure (e a) else pure (e b), fun w K => ?_⟩
    simp only [execOp, Sem.run_bind]
    cases e c <;> simp only [asBool, Sem.run_pure, Result.andThen_ok] <;> (try exact Iff.rfl)
    rename_i q
    cases q <;> simp
  all_goals exact ⟨_, fun w K => Iff.rfl⟩

def bhS (P : Program) (ops : Array Oper) (w : World) (o : Oper) (a : Act) (K : Value → Prop) : Prop :=
  if Region.wanted o (yielded ops a.tmps) then ∃ v, fin P (fun v' w' => v' = v ∧ w' = w) noP ((execOp a.eval o).run P w) ∧ K v else K undef

theorem bhS_mono {o : Oper} {a : Act} {K K' : Value → Prop} (h : ∀ v, K v → K' v) (hb : bhS P ops w o a K) : bhS P ops w o a K' := by
  unfold bhS at hb ⊢
  split at hb
  · rename_i hw; rw [if_pos hw]; obtain ⟨v, h1, h2⟩ := hb; exact ⟨v, h1, h v h2⟩
  · rename_i hw; rw [if_neg hw]; exact h _ hb
theorem bhS_inh {o : Oper} {a : Act} {K : Value → Prop} (hb : bhS P ops w o a K) : ∃ v, K v := by
  unfold bhS at hb
  split at hb
  · obtain ⟨v, _, h⟩ := hb; exact ⟨v, h⟩
  · exact ⟨_, hb⟩
theorem fin_two {v u : Value} {s : Sem Value} (h1 : fin P (fun v' w' => v' = v ∧ w' = w) noP ((do pure (Next.value (← s)) : Sem Next).run P w)) (h2 : fin P (fun v' w' => v' = u ∧ w' = w) noP ((do pure (Next.value (← s)) : Sem Next).run P w)) : v = u := by
  rw [Sem.run_bind] at h1 h2
  cases hr : s.run P w with
  | ok a w' => rw [hr] at h1 h2; exact h1.1.symm.trans h2.1
  | halt h w' =>
    rw [hr] at h1
    cases h <;> exact h1.elim
theorem bhS_det {o : Oper} (h : quietOp o = true) (a : Act) : (∃ v, ∀ K, bhS P ops w o a K ↔ K v) ∨ (∀ K, ¬ bhS P ops w o a K) := by
  obtain ⟨s, hs⟩ := exec_value (P := P) (e := a.eval) h
  unfold bhS
  by_cases hw : Region.wanted o (yielded ops a.tmps) = true
  · simp only [hw, if_true]
    by_cases hx : ∃ v, fin P (fun v' w' => v' = v ∧ w' = w) noP ((execOp a.eval o).run P w)
    · obtain ⟨v, hv⟩ := hx
      refine .inl ⟨v, fun K => ⟨fun hk => ?_, fun hk => ⟨v, hv, hk⟩⟩⟩
      obtain ⟨u, hu, hk⟩ := hk
      rw [hs] at hu hv
      rw [fin_two hv hu]; exact hk
    · exact .inr fun K hk => hx ⟨hk.choose, hk.choose_spec.1⟩
  · simp only [hw]; exact .inl ⟨undef, fun K => Iff.rfl⟩
theorem bhS_put {o : Oper} (hs : ∀ cs b, o.op ≠ .select cs b) {a : Act} {d : Option Tmp} {v : Value} (h : ∀ t, d = some t → t ∉ o.looksAt ops) {K : Value → Prop} :
    bhS P ops w o (a.put d v) K ↔ bhS P ops w o a K := by
  unfold bhS
  have hw := wanted_put (ops := ops) o a d v h
  have he : execOp (a.put d v).eval o = execOp a.eval o := execOp_congr o hs fun x hx => Act.eval_put fun t' ht' hxt => h t' ht' (by
    subst hxt; exact List.mem_append_left _ (List.mem_filterMap.2 ⟨.tmp t', by simpa using hx, rfl⟩))
  rw [hw, he]

def anyS (P : Program) (ops : Array Oper) (w : World) (K0 : Act → Prop) : Nat → Array Bool → Act → Prop
  | 0, listed, a => Region.ready .any ops listed = [] ∧ K0 a
  | fuel + 1, listed, a => (Region.ready .any ops listed = [] → K0 a) ∧
    ∀ i ∈ Region.ready .any ops listed, ∀ o, ops[i]? = some o → bhS P ops w o a fun v => anyS P ops w K0 fuel (listed.setIfInBounds i true) (a.put o.dst v)
def txS (P : Program) (ops : Array Oper) (w : World) (K0 : Act → Prop) : List Oper → Act → Prop
  | [], a => K0 a
  | o :: l, a => bhS P ops w o a fun v => txS P ops w K0 l (a.put o.dst v)

structure FineS (ops : Array Oper) : Prop where
  quiet : ∀ (j : Nat) (o : Oper), ops[j]? = some o → quietOp o = true
  edges : ∀ (j : Nat) (o : Oper), ops[j]? = some o → ∀ e ∈ o.after, Region.binds .any e = true → e.on < j
  pairs : ∀ (i j : Nat) (oi oj : Oper), ops[i]? = some oi → ops[j]? = some oj → i < j → (inMask ((masksGo ops.toList []).getD j 0) i || oi.apart ops oj) = true
theorem quiet_plain {o : Oper} (h : quietOp o = true) : plainOp o = true := by
  unfold quietOp at h; simp only [Bool.and_eq_true] at h; exact h.1.1

theorem commuteS {oi oj : Oper} (hj : quietOp oj = true) (a : Act) {K : Value → Value → Prop}
    (h : bhS P ops w oi a fun v => bhS P ops w oj a fun u => K v u) : bhS P ops w oj a fun u => bhS P ops w oi a fun v => K v u := by
  rcases bhS_det (P := P) (ops := ops) (w := w) hj a with ⟨u, hu⟩ | hb
  · rw [hu]; exact bhS_mono (fun v hk => (hu _).1 hk) h
  · obtain ⟨v, hk⟩ := bhS_inh h; exact (hb _ hk).elim

theorem anyS_first (hf : FineS ops) {i : Nat} {oi : Oper} (hoi : ops[i]? = some oi) : ∀ (fuel : Nat) (listed : Array Bool) (a : Act),
    Closed ops listed → (∀ j, j < i → j < ops.size → listed.getD j true = true) → i ∈ Region.ready .any ops listed →
    bhS P ops w oi a (fun v => anyS P ops w K0 fuel (listed.setIfInBounds i true) (a.put oi.dst v)) → anyS P ops w K0 (fuel + 1) listed a := by
  intro fuel
  induction fuel with
  | zero =>
    intro listed a hc hlow hi h
    refine ⟨fun h0 => (by rw [h0] at hi; cases hi), fun j hj o ho => ?_⟩
    by_cases hji : j = i
    · subst hji
      have : o = oi := Option.some.inj (ho.symm.trans hoi)
      subst this; exact h
    · exfalso
      obtain ⟨v, hk⟩ := bhS_inh h
      have := ready_mono hj hji
      rw [hk.1] at this; cases this
  | succ fuel ih =>
    intro listed a hc hlow hi h
    refine ⟨fun h0 => (by rw [h0] at hi; cases hi), fun j hj oj hoj => ?_⟩
    by_cases hji : j = i
    · subst hji
      have : oj = oi := Option.some.inj (hoj.symm.trans hoi)
      subst this; exact h
    · have hjr := mem_ready.1 hj
      have hij : i < j := by
        rcases Nat.lt_or_ge i j with h' | h'
        · exact h'
        · exfalso
          have hjs : j < ops.size := (Array.getElem?_eq_some_iff.1 hoj).1
          have := hlow j (by omega) hjs
          rw [hjr.1] at this; cases this
      have hap : oi.apart ops oj = true := by
        have hp := hf.pairs i j oi oj hoi hoj hij
        rw [Bool.or_eq_true] at hp
        rcases hp with hp | hp
        · exfalso
          obtain ⟨_, o', ho', hall⟩ := hjr
          have : o' = oj := Option.some.inj (ho'.symm.trans hoj)
          subst this
          have := masks_spec ops j o' i hoj (inMask_iff hp) listed hc hall
          rw [getD_false_of_true (mem_ready.1 hi).1] at this; cases this
        · exact hp
      obtain ⟨h1, h2, h3⟩ := Oper.apart_spec hap
      have hsi := plain_select (quiet_plain (hf.quiet i oi hoi))
      have hsj := plain_select (quiet_plain (hf.quiet j oj hoj))
      have hh : bhS P ops w oi a fun v => bhS P ops w oj a fun u => anyS P ops w K0 fuel ((listed.setIfInBounds i true).setIfInBounds j true) ((a.put oi.dst v).put oj.dst u) := by
        refine bhS_mono (fun v hk => ?_) h
        have := hk.2 j (ready_mono hj hji) oj hoj
        rw [bhS_put hsj h1] at this
        exact this
      have hh' := commuteS (hf.quiet j oj hoj) a (K := fun v u => anyS P ops w K0 fuel ((listed.setIfInBounds i true).setIfInBounds j true) ((a.put oi.dst v).put oj.dst u)) hh
      refine bhS_mono (fun u hk => ?_) hh'
      refine ih (listed.setIfInBounds j true) (a.put oj.dst u) (closed_set hc hj) (fun k hk hks => ?_) (ready_mono hi (fun e => hji e.symm)) ?_
      · rw [getD_set_ne true (by omega)]; exact hlow k hk hks
      · rw [bhS_put hsi h3]
        refine bhS_mono (fun v hk' => ?_) hk
        rw [Array.setIfInBounds_comm _ _ hji, ← Act.put_comm a v u h2]
        exact hk'

theorem anyS_text (hf : FineS ops) : ∀ (l : List Oper) (k : Nat) (listed : Array Bool) (a : Act), (∀ j : Nat, l[j]? = ops[k + j]?) → listed.size = ops.size →
    (∀ j, j < ops.size → listed.getD j true = decide (j < k)) → txS P ops w K0 l a → anyS P ops w K0 l.length listed a := by
  intro l
  induction l with
  | nil =>
    intro k listed a hl hs hlow h
    refine ⟨?_, h⟩
    rw [List.eq_nil_iff_forall_not_mem]
    intro j hj
    obtain ⟨h0, o, ho, _⟩ := mem_ready.1 hj
    have hjs : j < ops.size := (Array.getElem?_eq_some_iff.1 ho).1
    have := hlow j hjs
    rw [h0] at this
    have hk : k ≤ j := by have := of_decide_eq_false this.symm; omega
    have := hl (j - k)
    rw [show k + (j - k) = j by omega, ho] at this
    simp at this
  | cons o l ih =>
    intro k listed a hl hs hlow h
    have h0 : ops[k]? = some o := by simpa using (hl 0).symm
    have hks : k < ops.size := (Array.getElem?_eq_some_iff.1 h0).1
    have hgetD : ∀ j, j < k → listed.getD j false = true := fun j hj => by
      have h := hlow j (by omega)
      have hjs : j < listed.size := by omega
      simp [hjs, hj] at h ⊢; exact h
    have hc : Closed ops listed := by
      intro j oj hj hl' e he hb
      have hjs : j < ops.size := (Array.getElem?_eq_some_iff.1 hj).1
      have hjk : j < k := by
        have h := hlow j hjs
        have hjs' : j < listed.size := by omega
        simp [hjs'] at h hl'
        rw [hl'] at h
        exact of_decide_eq_true h.symm
      exact hgetD _ (Nat.lt_trans (hf.edges j oj hj e he hb) hjk)
    refine anyS_first hf h0 l.length listed a hc (fun j hj hjs => by rw [hlow j hjs]; simp [hj]) ?_ ?_
    · exact mem_ready.2 ⟨by rw [hlow k hks]; simp, o, h0, fun e he hb => hgetD _ (hf.edges k o h0 e he hb)⟩
    · refine bhS_mono (fun v hk => ih (k + 1) _ _ (fun j => by have := hl (j + 1); rw [show k + 1 + j = k + (j + 1) by omega]; simpa using this) (by simp [hs]) (fun j hjs => ?_) hk) h
      by_cases hjk : k = j
      · subst hjk; simp [hs, hks]
      · rw [getD_set_ne true hjk, hlow j hjs]
        congr 1
        exact propext ⟨fun h => by omega, fun h => by omega⟩

theorem wpAny_of_anyS {Q' : Exit → Act → World → Prop} (hQ : ∀ a, K0 a → Q' .normal a w) : ∀ (fuel : Nat) (listed : Array Bool) (a : Act),
    anyS P ops w K0 fuel listed a → wpAny P .any ops Q' fuel listed a w
  | 0, _, _, h => ⟨h.1, hQ _ h.2⟩
  | fuel + 1, listed, a, h => ⟨fun h0 => hQ _ (h.1 h0), fun i hi => by
      obtain ⟨_, o, ho, _⟩ := mem_ready.1 hi
      have hb := h.2 i hi o ho
      unfold wpOp
      simp only [ho]
      unfold bhS at hb
      split at hb
      · rename_i hw
        rw [if_pos hw]
        obtain ⟨v, h1, h2⟩ := hb
        have h3 := wpAny_of_anyS hQ fuel _ _ h2
        refine .inl (upon_of_fin0 (K := fun v' w' => v' = v ∧ w' = w) (fun v' w' hk => ?_) _ h1)
        rw [hk.1, hk.2]
        exact h3
      · rename_i hw
        rw [if_neg hw]
        exact wpAny_of_anyS hQ fuel _ _ hb⟩

theorem txS_of_WlistS {n : Nat} {Q : Exit → Env → World → Prop} (hd : dstsOk n ops) {ws : List Nat} : ∀ (l : List Oper) (ρ0 : Env), (∀ o ∈ l, ∃ j : Nat, ops[j]? = some o) → (∀ o ∈ l, ∀ t, o.dst = some t → t ∈ ws) → ∀ (ρ : Env) (a : Act), Rel n a ρ → (∀ t, t ∉ ws → ρ t = ρ0 t) →
    WlistS P ops (Q .normal) l ρ w → txS P ops w (fun a => ∃ ρ', Rel n a ρ' ∧ (∀ t, t ∉ ws → ρ' t = ρ0 t) ∧ Q .normal ρ' w) l a := by
  intro l ρ0
  induction l with
  | nil => intro _ _ ρ a hr ha h; exact ⟨ρ, hr, ha, h⟩
  | cons o l ih =>
    intro hm hw ρ a hr ha h
    have ih' := ih (fun o' h' => hm o' (List.mem_cons_of_mem _ h')) (fun o' h' => hw o' (List.mem_cons_of_mem _ h'))
    obtain ⟨jo, hjo⟩ := hm o (List.mem_cons_self ..)
    have hdo : ∀ t, o.dst = some t → t < n := fun t ht => hd jo t (by simp [hjo, ht])
    have next : ∀ v, WlistS P ops (Q .normal) l (pt ρ o.dst v) w → txS P ops w (fun a => ∃ ρ', Rel n a ρ' ∧ (∀ t, t ∉ ws → ρ' t = ρ0 t) ∧ Q .normal ρ' w) l (a.put o.dst v) := by
      intro v h'
      refine ih' _ _ (hr.put _ hdo v) (fun t ht => ?_) h'
      cases hdd : o.dst with
      | none => exact ha t ht
      | some d =>
        have : t ≠ d := fun e => ht (e ▸ hw o (List.mem_cons_self ..) d hdd)
        simp only [pt, nbeq_ne this, cond_false]; exact ha t ht
    have run : Region.wanted o (yielded ops a.tmps) = true → oS (fun K => oneOp P noP false (ev ρ) o w K) w (fun v w' => WlistS P ops (Q .normal) l (pt ρ o.dst v) w') → bhS P ops w o a fun v => txS P ops w (fun a => ∃ ρ', Rel n a ρ' ∧ (∀ t, t ∉ ws → ρ' t = ρ0 t) ∧ Q .normal ρ' w) l (a.put o.dst v) := by
      intro hwt hk
      obtain ⟨v, h1, h2⟩ := hk
      unfold bhS
      rw [if_pos hwt, hr.eval]
      rw [oneOp_eq P noP false _ (ev_func _)] at h1
      exact ⟨v, h1, next v h2⟩
    unfold txS
    unfold WlistS at h
    cases hg : o.guard with
    | none =>
      simp only [hg] at h
      exact run (wanted_none hg _) h
    | some g =>
      obtain ⟨j, want⟩ := g
      simp only [hg] at h
      cases hj : ((ops[j]? : Option Oper)).bind (fun o => o.dst) with
      | none => simp only [hj] at h
      | some t =>
        simp only [hj] at h
        have hwt := wanted_some hr hg hj (hd j t hj)
        cases hb : isB (ρ t) want with
        | true =>
          simp only [hb, oG] at h
          exact run (hwt.trans hb) h
        | false =>
          simp only [hb, oG] at h
          unfold bhS
          rw [if_neg (by rw [hwt, hb]; simp)]
          exact next _ h

theorem fineS_of (h : stillOk ops = true) : FineS ops := by
  unfold stillOk at h
  simp only [Bool.and_eq_true, look_eq] at h
  obtain ⟨⟨h1, h2⟩, h3⟩ := h
  refine ⟨fun j o ho => List.all_eq_true.1 h1 o (by obtain ⟨hlt, rfl⟩ := Array.getElem?_eq_some_iff.1 ho; simp), fun j o ho e hm hb => by have := edgesOk_spec ops.toList 0 h2 j o (by simpa using ho) e hm hb; omega, fun i j oi oj hoi hoj hij => ?_⟩
  have key : ∀ (l : List Oper) (k : Nat), pairsA ops (fun j => (masksGo ops.toList []).getD j 0) l k = true → ∀ i j oi oj, l[i]? = some oi → l[j]? = some oj → i < j → (inMask ((masksGo ops.toList []).getD (k + j) 0) (k + i) || oi.apart ops oj) = true := by
    intro l
    induction l with
    | nil => intro k _ i j oi oj h; simp at h
    | cons o l ih =>
      intro k h i j oi oj hi hj hij
      simp only [pairsA, Bool.and_eq_true] at h
      obtain ⟨j, rfl⟩ : ∃ j', j = j' + 1 := ⟨j - 1, by omega⟩
      have hj' : l[j]? = some oj := by simpa using hj
      cases i with
      | zero =>
        simp at hi; subst hi
        have := row_spec (f := fun oj j => (inMask ((masksGo ops.toList []).getD j 0) k || o.apart ops oj)) (g := rowA ops (fun j => (masksGo ops.toList []).getD j 0) k o) (fun _ => rfl) (fun _ _ _ => rfl) l (k + 1) h.1 j oj hj'
        rw [show k + (j + 1) = k + 1 + j by omega]; simpa using this
      | succ i =>
        have := ih (k + 1) h.2 i j oi oj (by simpa using hi) hj' (by omega)
        rw [show k + (j + 1) = k + 1 + j by omega, show k + (i + 1) = k + 1 + i by omega]; exact this
  have := key ops.toList 0 h3 i j oi oj (by simpa using hoi) (by simpa using hoj) hij
  simpa using this
end quiet

theorem dstsOk_of {n : Nat} {ops : Array Oper} (h : (ops.toList.all fun o => match o.dst with | some d => decide (d < n) | none => true) = true) : dstsOk n ops := by
  intro j t hj
  cases ho : (ops[j]? : Option Oper) with
  | none => rw [ho] at hj; simp at hj
  | some o =>
    rw [ho] at hj
    simp only [Option.bind_some] at hj
    have := List.all_eq_true.1 h o (by rw [Array.mem_toList_iff]; exact Array.mem_of_getElem? ho)
    rw [hj] at this
    exact of_decide_eq_true this

theorem post_mono {n : Nat} {Kp : PK} {Q Q' : Exit → Env → World → Prop} (h : ∀ e ρ w, Q e ρ w → Q' e ρ w) : ∀ e a w, post n Kp Q e a w → post n Kp Q' e a w := by
  intro e a w hp
  cases e with
  | panic c => exact hp
  | outgrown => exact hp
  | _ => obtain ⟨ρ, hr, hq⟩ := hp; exact ⟨ρ, hr, h _ _ _ hq⟩

theorem W_sound {P : Program} (hmix : P.follows .mixedOrders = true) {an : Ann} {Kp : PK} {n : Nat} : ∀ (c : Code), slotsOk n c = true → ∀ (Q : Exit → Env → World → Prop) (ρ : Env) (w : World) (a : Act), Rel n a ρ →
    W P an Kp c Q ρ w → c.wp P (post n Kp fun e ρ' w' => (∀ t, t ∉ writes c → ρ' t = ρ t) ∧ Q e ρ' w') a w := by
  intro c
  induction c with
  | skip => intro _ Q ρ w a hr h; exact wp_skip ⟨ρ, hr, fun _ _ => rfl, h⟩
  | label l => intro _ Q ρ w a hr h; exact wp_label ⟨ρ, hr, fun _ _ => rfl, h⟩
  | exit id => intro _ Q ρ w a hr h; exact wp_exit ⟨ρ, hr, fun _ _ => rfl, h⟩
  | ret => intro _ Q ρ w a hr h; exact wp_ret ⟨ρ, hr, fun _ _ => rfl, h⟩
  | goto l => intro _ Q ρ w a hr h; exact h.elim
  | refuse s => intro _ Q ρ w a hr h; exact h.elim
  | scope b => intro _ Q ρ w a hr h; exact h.elim
  | rangeFunc => intro _ Q ρ w a hr h; exact h.elim
  | region id ops draw =>
    intro hs Q ρ w a hr h
    have hd : dstsOk n ops := dstsOk_of hs
    have hm : ∀ o ∈ ops.toList, ∃ j : Nat, ops[j]? = some o := fun o ho => by
      obtain ⟨j, hj⟩ := List.mem_iff_getElem?.1 ho
      exact ⟨j, by simpa using hj⟩
    have hw : ∀ o ∈ ops.toList, ∀ t, o.dst = some t → t ∈ writes (.region id ops draw) := fun o ho t ht => List.mem_filterMap.2 ⟨o, ho, ht⟩
    cases draw with
    | false => exact wp_region_list (Wlist_sound hd ops.toList ρ hm hw ρ w a hr (fun _ _ => rfl) h)
    | true =>
      simp only [W] at h
      cases hft : lkT an.forks id with
      | some tr =>
        rw [hft] at h
        dsimp only at h
        cases hto : trOk ops tr with
        | false => rw [hto] at h; exact h.elim
        | true =>
          rw [hto] at h
          obtain ⟨S, hS, h⟩ := h
          refine wp_region_any hmix ?_
          refine wpAny_of_anyH (S := S) (K0 := fun a w => ∃ ρ', Rel n a ρ' ∧ (∀ t, t ∉ writes (.region id ops true) → ρ' t = ρ t) ∧ Q .normal ρ' w) (fun a w ⟨ρ', hr', ha, hq⟩ => ⟨ρ', hr', ha, hq⟩) _ _ _ _ (fun j oj hj hl' => by have hjs := (Array.getElem?_eq_some_iff.1 hj).1; simp [hjs] at hl') (.inr hS) ?_
          have htx := txT_of_WT (S := S) hd ρ hw tr ρ w.drew a hr (fun _ _ => rfl) h
          simp only [trOk, Bool.and_eq_true, look_eq] at hto
          have hed := edgesOk_spec ops.toList 0 hto.1.2
          have hl0 : Lst ops 0 (Array.replicate ops.size false) := ⟨by simp, fun j hj => by rw [inMask_eq]; simp [hj]⟩
          have := (okT_sound ⟨_, hS⟩ (fun j o ho => List.all_eq_true.1 hto.1.1 o (by obtain ⟨hlt, rfl⟩ := Array.getElem?_eq_some_iff.1 ho; simp)) (fun j o ho e hm hb => by have := hed j o (by simpa using ho) e hm hb; omega) tr false ops.size 0 (Array.replicate ops.size false) hto.2 hl0 (fun j oj hj hl' => by
            have hjs := (Array.getElem?_eq_some_iff.1 hj).1
            simp [hjs] at hl') a w.drew htx).1 rfl
          simpa using this
      | none =>
      rw [hft] at h
      dsimp only at h
      cases hst : elemN id an.stills with
      | true =>
        rw [hst] at h
        dsimp only at h
        cases hso : stillOk ops with
        | false => rw [hso] at h; exact h.elim
        | true =>
          rw [hso] at h
          refine wp_region_any hmix ?_
          refine wpAny_of_anyS (K0 := fun a => ∃ ρ', Rel n a ρ' ∧ (∀ t, t ∉ writes (.region id ops true) → ρ' t = ρ t) ∧ Q .normal ρ' w.drew) (fun a ⟨ρ', hr', ha, hq⟩ => ⟨ρ', hr', ha, hq⟩) _ _ _ ?_
          have htx := txS_of_WlistS hd ops.toList ρ hm hw ρ a hr (fun _ _ => rfl) h
          have := anyS_text (fineS_of hso) ops.toList 0 (Array.replicate ops.size false) a (fun j => by simp) (by simp) (fun j hj => by simp [hj]) htx
          simpa using this
      | false =>
      rw [hst] at h
      dsimp only at h
      cases ho : orderOk false ops with
      | false =>
        rw [ho] at h
        dsimp only at h
        cases hoh : orderOk true ops with
        | false => rw [hoh] at h; exact h.elim
        | true =>
          rw [hoh] at h
          obtain ⟨S, hS, h⟩ := h
          refine wp_region_any hmix ?_
          refine wpAny_of_anyH (S := S) (K0 := fun a w => ∃ ρ', Rel n a ρ' ∧ (∀ t, t ∉ writes (.region id ops true) → ρ' t = ρ t) ∧ Q .normal ρ' w) (fun a w ⟨ρ', hr', ha, hq⟩ => ⟨ρ', hr', ha, hq⟩) _ _ _ _ (fun j oj hj hl' => by have hjs := (Array.getElem?_eq_some_iff.1 hj).1; simp [hjs] at hl') (.inr hS) ?_
          have htx := txH_of_WlistH (S := S) hd ops.toList ρ hm hw ρ w.drew a hr (fun _ _ => rfl) h
          have := anyH_text ⟨_, hS⟩ (fineH_of hoh) ops.toList 0 (Array.replicate ops.size false) a w.drew (fun j => by simp) (by simp) (fun j hj => by simp [hj]) htx
          simpa using this
      | true =>
        rw [ho] at h
        refine wp_region_any hmix ?_
        refine wpAny_of_anyB (K0 := fun a w => ∃ ρ', Rel n a ρ' ∧ (∀ t, t ∉ writes (.region id ops true) → ρ' t = ρ t) ∧ Q .normal ρ' w) (fun a w ⟨ρ', hr', ha, hq⟩ => ⟨ρ', hr', ha, hq⟩) _ _ _ _ ?_
        have htx := txB_of_Wlist hd ops.toList ρ hm hw ρ w.drew a hr (fun _ _ => rfl) h
        have := anyB_text (fine_of ho) ops.toList 0 (Array.replicate ops.size false) a w.drew (fun j => by simp) (by simp) (fun j hj => by simp [hj]) htx
        simpa using this
  | seq x y ihx ihy =>
    intro hs Q ρ w a hr h
    simp only [slotsOk, Bool.and_eq_true] at hs
    simp only [W] at h
    refine wp_seq ?_
    cases hk : lkO an.cuts (firstId y) with
    | none =>
      rw [hk] at h
      refine wp_mono (ihx hs.1 _ ρ w a hr h) fun e a' w' hp => ?_
      cases e with
      | normal =>
        obtain ⟨ρ', hr', ha, hq⟩ := hp
        refine wp_mono (ihy hs.2 Q ρ' w' a' hr' hq) (post_mono fun e ρ2 w2 hq2 => ⟨fun t ht => ?_, hq2.2⟩)
        simp only [writes, List.mem_append, not_or] at ht
        rw [hq2.1 t ht.2, ha t ht.1]
      | panic c => exact hp
      | outgrown => exact hp
      | exit id =>
        obtain ⟨ρ', hr', ha, hq⟩ := hp
        exact ⟨ρ', hr', fun t ht => ha t (fun h => ht (by simp only [writes, List.mem_append]; exact .inl h)), hq⟩
      | goto id =>
        obtain ⟨ρ', hr', ha, hq⟩ := hp
        exact ⟨ρ', hr', fun t ht => ha t (fun h => ht (by simp only [writes, List.mem_append]; exact .inl h)), hq⟩
      | ret =>
        obtain ⟨ρ', hr', ha, hq⟩ := hp
        exact ⟨ρ', hr', fun t ht => ha t (fun h => ht (by simp only [writes, List.mem_append]; exact .inl h)), hq⟩
    | some Sm =>
      obtain ⟨S', m⟩ := Sm
      rw [hk] at h
      dsimp only at h
      cases hwi : writesIn m x with
      | false => rw [hwi] at h; exact h.elim
      | true =>
      rw [hwi] at h
      obtain ⟨M, h1, h2⟩ := h
      refine wp_mono (ihx hs.1 _ ρ w a hr h1) fun e a' w' hp => ?_
      cases e with
      | normal =>
        obtain ⟨ρ', hr', ha, hq⟩ := hp
        have hy := h2 ρ' w' hq
        rw [ovr_self hwi ha] at hy
        refine wp_mono (ihy hs.2 Q ρ' w' a' hr' hy) (post_mono fun e ρ2 w2 hq2 => ⟨fun t ht => ?_, hq2.2⟩)
        simp only [writes, List.mem_append, not_or] at ht
        rw [hq2.1 t ht.2, ha t ht.1]
      | panic c => exact hp
      | outgrown => exact hp
      | exit id =>
        obtain ⟨ρ', hr', ha, hq⟩ := hp
        exact ⟨ρ', hr', fun t ht => ha t (fun h => ht (by simp only [writes, List.mem_append]; exact .inl h)), hq⟩
      | goto id =>
        obtain ⟨ρ', hr', ha, hq⟩ := hp
        exact ⟨ρ', hr', fun t ht => ha t (fun h => ht (by simp only [writes, List.mem_append]; exact .inl h)), hq⟩
      | ret =>
        obtain ⟨ρ', hr', ha, hq⟩ := hp
        exact ⟨ρ', hr', fun t ht => ha t (fun h => ht (by simp only [writes, List.mem_append]; exact .inl h)), hq⟩
  | cond c x y ihx ihy =>
    intro hs Q ρ w a hr h
    simp only [slotsOk, Bool.and_eq_true] at hs
    simp only [W] at h
    unfold oCond at h
    split at h
    · rename_i hv
      refine wp_cond (t := true) (by rw [hr.eval]; exact hv) ?_
      simp only [if_true]
      exact wp_mono (ihx hs.1 Q ρ w a hr h) (post_mono fun e ρ2 w2 hq2 => ⟨fun t ht => hq2.1 t (fun h => ht (by simp only [writes, List.mem_append]; exact .inl h)), hq2.2⟩)
    · rename_i hv
      refine wp_cond (t := false) (by rw [hr.eval]; exact hv) ?_
      simp only [Bool.false_eq_true, if_false]
      exact wp_mono (ihy hs.2 Q ρ w a hr h) (post_mono fun e ρ2 w2 hq2 => ⟨fun t ht => hq2.1 t (fun h => ht (by simp only [writes, List.mem_append]; exact .inr h)), hq2.2⟩)
    · exact h.elim
  | block id b ih =>
    intro hs Q ρ w a hr h
    simp only [slotsOk] at hs
    simp only [W] at h
    refine wp_block (wp_mono (ih hs _ ρ w a hr h) fun e a' w' hp => ?_)
    cases e with
    | normal => exact hp
    | panic c => exact hp
    | outgrown => exact hp
    | goto l => exact hp
    | ret => exact hp
    | exit id' =>
      obtain ⟨ρ', hr', ha, hq⟩ := hp
      dsimp only at hq
      simp only [Exit.inBlock]
      by_cases he : id' = id
      · subst he
        rw [nat_beq_self, cond_true] at hq
        rw [if_pos rfl]
        exact ⟨ρ', hr', ha, hq⟩
      · rw [nbeq_ne he, cond_false] at hq
        rw [if_neg he]
        exact ⟨ρ', hr', ha, hq⟩
  | loop b ih =>
    intro hs Q ρ w a hr h
    simp only [slotsOk] at hs
    simp only [W] at h
    cases hk : lkO an.loops (firstId b) with
    | none => rw [hk] at h; exact h.elim
    | some Sm =>
      obtain ⟨S', m⟩ := Sm
      rw [hk] at h
      dsimp only at h
      cases hwi : writesIn m b with
      | false => rw [hwi] at h; exact h.elim
      | true =>
      rw [hwi] at h
      obtain ⟨J, μ, h0, hround⟩ := h
      let val : Act → Env := fun a t => a.tmps.getD t undef
      have hval : ∀ {a : Act} {ρ : Env}, Rel n a ρ → val a = ρ := fun hr => funext fun t => hr.get t
      refine wp_loop (fun a w => ∃ ρ', Rel n a ρ' ∧ (∀ t, t ∉ writes b → ρ' t = ρ t) ∧ J (S'.map ρ') w) (fun a w => μ (S'.map (val a)) w) ⟨ρ, hr, fun _ _ => rfl, h0⟩ ?_
      rintro a1 w1 ⟨ρ1, hr1, ha1, hJ⟩
      have hb := hround ρ1 w1 hJ
      rw [ovr_self hwi ha1] at hb
      refine wp_mono (ih hs _ ρ1 w1 a1 hr1 hb) fun e a' w' hp => ?_
      have fix : ∀ t, t ∉ writes (.loop b) → t ∉ writes b := fun t ht => ht
      cases e with
      | normal =>
        obtain ⟨ρ', hr', ha, hq, hμ⟩ := hp
        refine ⟨⟨ρ', hr', fun t ht => by rw [ha t ht, ha1 t ht], hq⟩, ?_⟩
        simp only [hval hr', hval hr1]; exact hμ
      | panic c => exact hp
      | outgrown => exact hp
      | exit id => obtain ⟨ρ', hr', ha, hq⟩ := hp; exact ⟨ρ', hr', fun t ht => by rw [ha t ht, ha1 t ht], hq⟩
      | goto id => obtain ⟨ρ', hr', ha, hq⟩ := hp; exact ⟨ρ', hr', fun t ht => by rw [ha t ht, ha1 t ht], hq⟩
      | ret => obtain ⟨ρ', hr', ha, hq⟩ := hp; exact ⟨ρ', hr', fun t ht => by rw [ha t ht, ha1 t ht], hq⟩

end Go.Proofs.YtlbihkgfejgefaaDoor.L
