/- Heads of queues. -/
import Derived.Test.YtahipnlffgbjgaaS1
namespace Go.Proofs.Ytahipnlffgbjgaa
open Go L
set_option linter.unusedVariables false

theorem getD_el {α : Type} (l : List α) {i : Nat} (d : α) (h : i < l.length) : l.getD i d = l[i] := by simp [List.getD, List.getElem?_eq_getElem h]

def gAt (G : List (Nat × Int)) (k : Nat) : Nat := (G.getD k (0, 0)).1
def mAt (G : List (Nat × Int)) (k : Nat) : Int := (G.getD k (0, 0)).2
def lAt {α : Type} (L : List (List α)) (k : Nat) : List α := L.getD k []
theorem gAt_el (G : List (Nat × Int)) {k : Nat} (h : k < G.length) : gAt G k = G[k].1 := by unfold gAt; rw [getD_el _ _ h]
theorem mAt_el (G : List (Nat × Int)) {k : Nat} (h : k < G.length) : mAt G k = G[k].2 := by unfold mAt; rw [getD_el _ _ h]
theorem lAt_el {α : Type} (L : List (List α)) {k : Nat} (h : k < L.length) : lAt L k = L[k] := by unfold lAt; rw [getD_el _ _ h]

/-- many things at blocks of their own: their blocks and rooms; what is in them -/
def ManyH (f : Nat → Int → List Int → HP) (G : List (Nat × Int)) (L : List (List Int)) : HP := HP.all (List.zipWith (fun g l => f g.1 g.2 l) G L)
class AtH (f : Nat → Int → List Int → HP) : Prop where
  h : ∀ {g : Nat} {m : Int} {l : List Int} {c : World} {I : CM} {F : Hp} {As : List HP} {w : World}, St c I F (f g m l :: As) w → ∃ cs E R, St c I F (Cells g cs E :: R :: As) w
abbrev QsH := ManyH (QueueH Ty.int T_queue_Queue_int T_int)
instance : AtH (QueueH Ty.int T_queue_Queue_int T_int) := ⟨fun hs => by obtain ⟨v, _, h1⟩ := QueueH.open hs; exact ⟨_, _, _, h1⟩⟩

def takeHeads : List Nat → List (List Int) → List Int × List (List Int)
  | [], L => ([], L)
  | k :: r, L => let p := takeHeads r (L.set k ((lAt L k).drop 1)); ((lAt L k).take 1 ++ p.1, p.2)
theorem takeHeads_append (a b : List Nat) : ∀ L, takeHeads (a ++ b) L = ((takeHeads a L).1 ++ (takeHeads b (takeHeads a L).2).1, (takeHeads b (takeHeads a L).2).2) := by
  induction a with
  | nil => intro L; simp [takeHeads]
  | cons k r ih => intro L; simp [takeHeads, ih]
theorem takeHeads_len (a : List Nat) : ∀ L, (takeHeads a L).2.length = L.length := by
  induction a with
  | nil => intro L; rfl
  | cons k r ih => intro L; simp [takeHeads, ih]
theorem takeHeads_out (a : List Nat) : ∀ L, (takeHeads a L).1.length ≤ a.length := by
  induction a with
  | nil => intro L; simp [takeHeads]
  | cons k r ih => intro L; have := ih (L.set k ((lAt L k).drop 1)); simp only [takeHeads, List.length_append, List.length_take, List.length_cons]; omega
def enough (idx : List Nat) (L : List (List Int)) : Bool := idx.all fun k => decide (idx.count k ≤ (lAt L k).length)

section
variable {c : World} {I : CM} {F : Hp} {As : List HP} {w : World}

theorem ManyH.get {f : Nat → Int → List Int → HP} {G : List (Nat × Int)} {L : List (List Int)} (hs : St c I F (ManyH f G L :: As) w) (hl : G.length = L.length) (k : Nat) (hk : k < L.length) :
    ∃ R, St c I F (f (G[k]'(by omega)).1 (G[k]'(by omega)).2 L[k] :: R :: As) w ∧
      ∀ c' I' F' As' w' x, St c' I' F' (f (G[k]'(by omega)).1 (G[k]'(by omega)).2 x :: R :: As') w' → St c' I' F' (ManyH f G (L.set k x) :: As') w' := by
  have hz : k < (List.zipWith (fun (g : Nat × Int) l => f g.1 g.2 l) G L).length := by simp; omega
  have h1 := St.allAt hs k hz
  rw [List.getElem_zipWith] at h1
  refine ⟨_, h1, fun c' I' F' As' w' x h2 => ?_⟩
  have h3 := St.allSet hz h2
  have e : (List.zipWith (fun (g : Nat × Int) l => f g.1 g.2 l) G L).set k (f (G[k]'(by omega)).1 (G[k]'(by omega)).2 x) = List.zipWith (fun g l => f g.1 g.2 l) G (L.set k x) := by
    refine List.ext_getElem (by simp) fun i h1 h2 => ?_
    simp only [List.getElem_set, List.getElem_zipWith]
    by_cases hki : k = i
    · subst hki; simp
    · simp [hki]
  unfold ManyH; rw [← e]; exact h3

theorem ManyH.get' {f : Nat → Int → List Int → HP} {G : List (Nat × Int)} {L : List (List Int)} (hs : St c I F (ManyH f G L :: As) w) (hl : G.length = L.length) (k : Nat) (hk : k < L.length) :
    ∃ R, St c I F (f (gAt G k) (mAt G k) (lAt L k) :: R :: As) w ∧
      ∀ c' I' F' As' w' x, St c' I' F' (f (gAt G k) (mAt G k) x :: R :: As') w' → St c' I' F' (ManyH f G (L.set k x) :: As') w' := by
  have := ManyH.get hs hl k hk
  rw [← lAt_el L hk, ← gAt_el G (by omega), ← mAt_el G (by omega)] at this
  exact this
/-- the queue's block, and that another one is another -/
theorem ManyH.blk {f : Nat → Int → List Int → HP} [hf : AtH f] {G : List (Nat × Int)} {L : List (List Int)} (hs : St c I F (ManyH f G L :: As) w) (hl : G.length = L.length) (k : Nat) (hk : k < L.length) : ∃ cs E, Blk w (G[k]'(by omega)).1 cs E := by
  obtain ⟨R, h1, _⟩ := ManyH.get hs hl k hk
  obtain ⟨cs, E, R, h2⟩ := hf.h h1
  exact ⟨_, _, h2.blk⟩
theorem ManyH.inj {f : Nat → Int → List Int → HP} [hf : AtH f] {G : List (Nat × Int)} {L : List (List Int)} (hs : St c I F (ManyH f G L :: As) w) (hl : G.length = L.length) {i j : Nat} (hi : i < L.length) (hj : j < L.length) (hij : i ≠ j) : (G[i]'(by omega)).1 ≠ (G[j]'(by omega)).1 := by
  have hz : ∀ k, k < L.length → k < (List.zipWith (fun (g : Nat × Int) l => f g.1 g.2 l) G L).length := fun k hk => by simp; omega
  have h1 := St.allAt hs i (hz i hi)
  have hmem : ∃ (j' : Nat) (h : j' < ((List.zipWith (fun (g : Nat × Int) l => f g.1 g.2 l) G L).eraseIdx i).length), ((List.zipWith (fun (g : Nat × Int) l => f g.1 g.2 l) G L).eraseIdx i)[j'] = f (G[j]'(by omega)).1 (G[j]'(by omega)).2 L[j] := by
    have hzi := hz i hi
    have hzj := hz j hj
    rcases Nat.lt_or_ge j i with h | h
    · refine ⟨j, by rw [List.length_eraseIdx]; split <;> omega, ?_⟩
      rw [List.getElem_eraseIdx_of_lt (h' := h), List.getElem_zipWith]
    · refine ⟨j - 1, by rw [List.length_eraseIdx]; split <;> omega, ?_⟩
      rw [List.getElem_eraseIdx_of_ge (h' := by omega)]
      rw [List.getElem_zipWith]
      have : j - 1 + 1 = j := by omega
      simp only [this]
  obtain ⟨j', hj', e⟩ := hmem
  have h2 := St.allAt h1.p1 j' hj'
  rw [e] at h2
  rw [List.getElem_zipWith] at h2
  obtain ⟨cs, E, R, h3⟩ := hf.h h2
  obtain ⟨cs', E', R', h4⟩ := hf.h h3.p3
  exact (h4.perm (Bs := Cells _ _ _ :: Cells _ _ _ :: _) (by
    refine List.Perm.cons _ ?_
    exact List.Perm.swap _ _ _)).ne

theorem s_Heads (G : List (Nat × Int)) (L : List (List Int)) (idx : List Nat) (v : Value) (hs : St c I F (QsH G L :: As) w) (hl : G.length = L.length) (hidx : ∀ k ∈ idx, k < L.length)
    (hv : RS Ty.ptr (Rd I F) I v (idx.map fun k => (gAt G k))) (hn : idx.length ≤ 1048576) :
    Calls Try.prog i_queue_Heads_int #[v] w (callR (fun r w' => (enough idx L = true ∧ ∃ v', r = .tuple #[v', .bool true] ∧ St c I F (OwnSl Ty.int T_int v' (takeHeads idx L).1 :: QsH G (takeHeads idx L).2 :: As) w') ∨
      (enough idx L = false ∧ r = .tuple #[.slice none 0 0, .bool false] ∧ St c I F (QsH G L :: As) w')) noP) := by
  obtain ⟨A, cp, hve, hcp, hcp', -⟩ := hv.parts
  rw [hve] at hv ⊢
  simp only [List.length_map] at hv hcp ⊢
  have hel : ∀ i (hi : i < idx.length), ∃ b o, A = some ⟨b, o, none⟩ ∧ Rd I F b (o + i) = some (.pointer (some ⟨gAt G idx[i], 0, none⟩)) := by
    intro i hi
    obtain ⟨b, o, us, hA, hu, hr, -⟩ := hv.at (i := i) (by simpa using hi)
    have hr' : us = [.pointer (some ⟨(idx.map fun k => (gAt G k))[i]'(by simpa using hi), 0, none⟩)] := hr
    subst hr'
    exact ⟨b, o, hA, by simpa using hu 0 (by simp)⟩
  refine c_queue_Heads_int ?_
  unfold n_queue_Heads_int
  refine rLen ?_
  refine rLoop1 (fun x w' => ∃ i : Nat, x = .int .i64 i ∧ i ≤ idx.length ∧ (∀ a (h : a < idx.length), a < i → idx.count idx[a] ≤ (lAt L idx[a]).length) ∧ St c I F (QsH G L :: As) w') (fun x _ => match x with | .int _ k => idx.length - k.toNat | _ => 0)
    ⟨0, rfl, Nat.zero_le _, fun a _ h => by omega, hs⟩ ?_
  clear hs
  rintro f w ag hag ⟨i, hi, hin, hok, hs⟩
  simp only [hi] at hag ⊢
  refine rLss (rCond (fun hlt => ?_) fun hge => ?_)
  · have hil : i < idx.length := by omega
    obtain ⟨b, o, hA, hcell⟩ := hel i hil
    have hki := hidx idx[i] (List.getElem_mem hil)
    rw [hA]
    refine rIA (by omega) (by omega) (rLoad (by simpa using hs.rdCell hcell) (rLen ?_))
    refine rLoop2 (fun x y w' => ∃ j : Nat, y = .int .i64 j ∧ j ≤ idx.length ∧ x = .int .i64 ((idx.take j).count idx[i] : Nat) ∧ St c I F (QsH G L :: As) w') (fun _ y _ => match y with | .int _ k => idx.length - k.toNat | _ => 0)
      ⟨0, rfl, Nat.zero_le _, by simp, hs⟩ ?_
    clear hs
    rintro f2 w ag2 hag2 ⟨j, hj, hjn, hx, hs⟩
    simp only [hj, hx] at hag2 ⊢
    have hcnt : (idx.take j).count idx[i] ≤ j := Nat.le_trans List.count_le_length (by simp; omega)
    refine rLss (rCond (fun hlt2 => ?_) fun hge2 => ?_)
    · have hjl : j < idx.length := by omega
      obtain ⟨b2, o2, hA2, hcell2⟩ := hel j hjl
      have hkj := hidx idx[j] (List.getElem_mem hjl)
      rw [hA] at hA2
      cases hA2
      refine rIA (by omega) (by omega) (rLoad (by simpa using hs.rdCell hcell2) ?_)
      obtain ⟨cs1, E1, hb1⟩ := ManyH.blk hs hl idx[i] hki
      obtain ⟨cs2, E2, hb2⟩ := ManyH.blk hs hl idx[j] hkj
      rw [gAt_el G (by omega), gAt_el G (by omega)]
      refine rEqlPP (by decide) hb2 hb1 (rCond (fun he => ?_) fun hne => ?_)
      · have hij : idx[j] = idx[i] := by
          by_cases h : idx[j] = idx[i]
          · exact h
          · exact absurd he (ManyH.inj hs hl hkj hki h)
        refine rAdd (by omega) (by omega) (rAdd (by omega) (by omega) (hag2 _ _ _ ⟨j + 1, by simp, by omega, ?_, hs⟩ (by dsimp only; omega)))
        rw [List.take_succ_eq_append_getElem hjl, List.count_append, hij]; simp
      · have hij : idx[j] ≠ idx[i] := fun h => hne (by simp only [h])
        refine rAdd (by omega) (by omega) (hag2 _ _ _ ⟨j + 1, by simp, by omega, ?_, hs⟩ (by dsimp only; omega))
        rw [List.take_succ_eq_append_getElem hjl, List.count_append]; simp [hij]
    · have : j = idx.length := by omega
      subst this
      rw [List.take_length]
      obtain ⟨R, hs, back⟩ := ManyH.get' hs hl idx[i] hki
      have hC := q_Len _ _ _ _ _ _ hs
      refine rNil (rFA ?_)
      refine rCall hC ?_; clear hC hs
      rintro _ w ⟨rfl, hm, hs⟩
      have hs := back _ _ _ _ _ _ hs
      have e : L.set idx[i] (lAt L idx[i]) = L := by rw [lAt_el L hki]; simp
      rw [e] at hs
      refine rLss (rCond (fun hfew => ?_) fun hen => ?_)
      · refine .inr ⟨?_, by trivial, hs⟩
        rw [enough, List.all_eq_false]
        exact ⟨idx[i], List.getElem_mem hil, by simp; omega⟩
      · refine rAdd (by omega) (by omega) (hag _ _ ⟨i + 1, by simp, by omega, fun a ha hai => ?_, hs⟩ (by dsimp only; omega))
        rcases Nat.lt_or_ge a i with h | h
        · exact hok a ha h
        · have : a = i := by omega
          subst this; omega
  · have hen : enough idx L = true := by
      rw [enough, List.all_eq_true]
      intro k hk
      obtain ⟨a, ha, rfl⟩ := List.getElem_of_mem hk
      simpa using hok a ha (by omega)
    refine rLen ?_
    refine rLoop2 (fun x y w' => ∃ j : Nat, y = .int .i64 j ∧ j ≤ idx.length ∧ St c I F (OwnSl Ty.int T_int x (takeHeads (idx.take j) L).1 :: QsH G (takeHeads (idx.take j) L).2 :: As) w') (fun _ y _ => match y with | .int _ k => idx.length - k.toNat | _ => 0)
      ⟨0, rfl, Nat.zero_le _, by simpa [takeHeads] using hs.ownNil Ty.int T_int⟩ ?_
    clear hs
    rintro f2 w ag2 hag2 ⟨j, hj, hjn, hs⟩
    generalize f2 9 = x at hs ⊢
    simp only [hj] at hag2 ⊢
    refine rLss (rCond (fun hlt2 => ?_) fun hge2 => ?_)
    · have hjl : j < idx.length := by omega
      obtain ⟨b, o, hA, hcell⟩ := hel j hjl
      have hkj := hidx idx[j] (List.getElem_mem hjl)
      rw [hA]
      refine rIA (by omega) (by omega) (rLoad (by simpa using hs.rdCell hcell) ?_)
      have hlen := takeHeads_len (idx.take j) L
      have hout := takeHeads_out (idx.take j) L
      obtain ⟨R, hs, back⟩ := ManyH.get' hs.p1 (by omega) idx[j] (by omega)
      have hC := s_Take_int _ _ _ 1 hs
      refine rCall hC ?_; clear hC hs
      rintro r w ⟨k, hk, hm, hs⟩
      obtain ⟨F', hF, hr, hs, bk⟩ := hs.lendSl (by simp; omega)
      refine rAppS hs.p2 hr rfl (by rfl) (by decide) (by simp at hout ⊢; omega) (by decide) ?_
      clear hs
      intro x' w hs
      obtain ⟨-, hs⟩ := bk _ _ _ (Gr.refl _ _) hs
      have hs := (back _ _ _ _ _ _ hs.drop.p2.p2).p1
      refine rAdd (by omega) (by omega) (hag2 _ _ _ ⟨j + 1, by simp, by omega, ?_⟩ (by dsimp only; omega))
      rw [List.take_succ_eq_append_getElem hjl, takeHeads_append]
      have ek : ∀ l : List Int, (k : Int) = min (max 1 0) (l.length : Int) → l.take k = l.take 1 ∧ l.drop k = l.drop 1 := by
        intro l hl
        cases l with
        | nil => simp
        | cons y l => have : k = 1 := by simp at hl; omega
                      subst this; exact ⟨rfl, rfl⟩
      rw [(ek _ hk).1, (ek _ hk).2] at hs
      simpa [takeHeads] using hs
    · have : j = idx.length := by omega
      subst this
      rw [List.take_length] at hs
      exact .inl ⟨hen, x, rfl, hs⟩
end
end Go.Proofs.Ytahipnlffgbjgaa
