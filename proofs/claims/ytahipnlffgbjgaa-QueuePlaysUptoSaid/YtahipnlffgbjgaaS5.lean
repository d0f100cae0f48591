/- QueuePlays: the reference's queues. -/
import Derived.Test.YtahipnlffgbjgaaS4
import Derived.Test.YtahipnlffgbjgaaM1
namespace Go.Proofs.Ytahipnlffgbjgaa
open Go L
set_option linter.unusedVariables false

/-- a queue of the reference: its list lasts -/
def RefH (g : Nat) (most : Int) (l : List Int) : HP :=
  HP.ex fun v => HP.sep (Cells g [v, .int .i64 most] T_trommelref21_Queue) (HP.rep (fun I => RSl Ty.int I v l ∧ (1 ≤ most ∧ most ≤ 16 ∧ (l.length : Int) ≤ most)) (fun hle h => ⟨h.1.mono hle, h.2⟩))

section
variable {c : World} {I : CM} {F : Hp} {As : List HP} {w : World}
theorem RefH.open {g : Nat} {most : Int} {l : List Int} (hs : St c I F (RefH g most l :: As) w) : ∃ v, RSl Ty.int I v l ∧ (1 ≤ most ∧ most ≤ 16 ∧ (l.length : Int) ≤ most) ∧ St c I F (Cells g [v, .int .i64 most] T_trommelref21_Queue :: As) w := by
  obtain ⟨v, h1⟩ := hs.ex
  obtain ⟨h, h2⟩ := St.rep (hm := fun hle h => ⟨h.1.mono hle, h.2⟩) h1.sep.p1
  exact ⟨v, h.1, h.2, h2⟩
theorem RefH.shut {g : Nat} {most : Int} {l : List Int} {v : Value} (hv : RSl Ty.int I v l) (h : 1 ≤ most ∧ most ≤ 16 ∧ (l.length : Int) ≤ most) (hs : St c I F (Cells g [v, .int .i64 most] T_trommelref21_Queue :: As) w) : St c I F (RefH g most l :: As) w :=
  St.toEx v (St.join (St.p1 (St.toRep (hm := fun hle h => ⟨h.1.mono hle, h.2⟩) ⟨hv, h⟩ hs)))

theorem r_New (hs : St c I F As w) (n : Int) :
    Calls Try.prog i_trommelref21_New #[.int .i64 n] w (callR (fun r w' => ∃ g, r = .pointer (some ⟨g, 0, none⟩) ∧ St c I F (RefH g (min (max n 1) 16) [] :: As) w') noP) := by
  refine c_trommelref21_New ?_
  unfold n_trommelref21_New
  refine rMax (rMin (rBuild [.slice none 0 0, .int .i64 (min (max n 1) 16)] rfl (rBoxS hs [.slice none 0 0, .int .i64 (min (max n 1) 16)] rfl ?_)))
  intro g w hs
  exact ⟨g, rfl, RefH.shut (RSl.nil _ _) (by simp; omega) hs⟩

theorem r_Put (g : Nat) (x : Value) (most : Int) (l m : List Int) (hs : St c I F (RefH g most l :: As) w) (hx : RS Ty.int (Rd I F) I x m) :
    Calls Try.prog i_trommelref21_Queue_Put #[.pointer (some ⟨g, 0, none⟩), x] w (callR (fun r w' => ∃ (k : Nat) (J : CM), r = .int .i64 k ∧ (k : Int) = min (m.length : Int) (most - l.length) ∧ Gr F I J ∧ St c J F (RefH g most (l ++ m.take k) :: As) w') noP) := by
  obtain ⟨v, hv, hm, hs⟩ := RefH.open hs
  obtain ⟨A, cp, hxe, hxc, hxc', hxl⟩ := hx.parts
  rw [hxe] at hx ⊢
  obtain ⟨A2, c2, hve, hvc, hvc', hvl⟩ := hv.rs.parts
  rw [hve] at hs hv
  refine c_trommelref21_Queue_Put ?_
  unfold n_trommelref21_Queue_Put
  have hs := hs.drew
  obtain ⟨k, hk⟩ : ∃ k : Nat, (k : Int) = min (m.length : Int) (most - l.length) := ⟨(min (m.length : Int) (most - l.length)).toNat, by omega⟩
  refine rD rfl <| rLen <| rD rfl <| rNil <| rFA <| rLDS hs rfl <| rD rfl <| rNil <| rFA <| rLDS hs rfl <| rD rfl <| rLen <| rD rfl <| rSub (by omega) (by omega) <| rD rfl <| rMin ?_
  rw [← hk]
  have hs := hs.drew
  refine ⟨fun w' => w'.cell? ⟨g, 0, none⟩ = some (.slice A2 l.length c2), hs.cell 0, ?_⟩
  refine rBuildS0S hs Ty.int ?_; clear hs
  intro v1 w hs
  refine ⟨hs.p1.cell 0, rD rfl <| rNil <| rFA <| rHL (fun w1 h1 => h1) ?_⟩
  refine rAppS hs hv.rd rfl (by rfl) (by decide) (by simp; omega) (by decide) ?_; clear hs
  intro v2 w hs
  refine rSL (l := 0) (m := k) (.inl ⟨rfl, rfl⟩) (.inr ⟨_, rfl⟩) (Nat.zero_le _) (by omega) ?_
  rw [slA_zero]
  refine rAppS hs (hx.take0 (m := k) (by omega)) rfl (by rfl) (by decide) (by simp; omega) (by decide) ?_; clear hs
  intro v3 w hs
  rw [List.nil_append] at hs
  obtain ⟨J, hJ, hr, hs'⟩ := hs.lastSl (by simp; omega)
  obtain ⟨A3, c3, he3, _⟩ := hr.rs.parts
  refine rD rfl <| rNil <| rFA ?_
  rw [he3] at hr ⊢
  refine rStS hs' (by simp) rfl ?_
  intro w hs
  exact ⟨k, J, rfl, by first | exact hk | rfl, hJ, RefH.shut hr (by simp; omega) hs⟩

theorem r_Take (g : Nat) (n most : Int) (l : List Int) (hs : St c I F (RefH g most l :: As) w) :
    Calls Try.prog i_trommelref21_Queue_Take #[.pointer (some ⟨g, 0, none⟩), .int .i64 n] w (callR (fun r w' => ∃ k : Nat, (k : Int) = min (max n 0) (l.length : Int) ∧ RSl Ty.int I r (l.take k) ∧ St c I F (RefH g most (l.drop k) :: As) w') noP) := by
  obtain ⟨v, hv, hm, hs⟩ := RefH.open hs
  obtain ⟨A2, c2, hve, hvc, hvc', hvl⟩ := hv.rs.parts
  rw [hve] at hs hv
  refine c_trommelref21_Queue_Take ?_
  unfold n_trommelref21_Queue_Take
  obtain ⟨k, hk⟩ : ∃ k : Nat, (k : Int) = min (max n 0) (l.length : Int) := ⟨(min (max n 0) (l.length : Int)).toNat, by omega⟩
  refine rMax <| rNil <| rFA <| rLdS hs rfl <| rLen <| rMin ?_
  rw [← hk]
  refine rNil <| rFA <| rLdS hs rfl <| rSL (l := 0) (m := k) (.inl ⟨rfl, rfl⟩) (.inr ⟨_, rfl⟩) (Nat.zero_le _) (by omega) ?_
  rw [slA_zero]
  refine rNil <| rFA <| rLdS hs rfl <| rSL (l := k) (m := l.length) (.inr ⟨_, rfl⟩) (.inl ⟨rfl, rfl⟩) (by omega) (by omega) ?_
  refine rNil <| rFA <| rStS hs (by simp) rfl ?_
  clear hs
  intro w hs
  exact ⟨k, by first | exact hk | rfl, (hv.rs.take0 (m := k) (by omega)).sl, RefH.shut (hv.rs.drop0 (m := k) (by omega)).sl (by simp; omega) hs⟩

instance : AtH RefH := ⟨fun hs => by obtain ⟨v, _, _, h1⟩ := RefH.open hs; exact ⟨_, _, _, h1.push.p1⟩⟩

theorem r_Heads (G : List (Nat × Int)) (L : List (List Int)) (idx : List Nat) (v : Value) (hs : St c I F (ManyH RefH G L :: As) w) (hl : G.length = L.length) (hidx : ∀ k ∈ idx, k < L.length)
    (hv : RS Ty.ptr (Rd I F) I v (idx.map fun k => (gAt G k))) (hn : idx.length ≤ 1048576) :
    Calls Try.prog i_trommelref21_Heads #[v] w (callR (fun r w' => (enough idx L = true ∧ ∃ v', r = .tuple #[v', .bool true] ∧ St c I F (OwnSl Ty.int T_int v' (takeHeads idx L).1 :: ManyH RefH G (takeHeads idx L).2 :: As) w') ∨
      (enough idx L = false ∧ r = .tuple #[.slice none 0 0, .bool false] ∧ St c I F (ManyH RefH G L :: As) w')) noP) := by
  obtain ⟨A, cp, hve, hcp, hcp', -⟩ := hv.parts
  rw [hve] at hv ⊢
  simp only [List.length_map] at hv hcp ⊢
  have hel : ∀ i (hi : i < idx.length), ∃ b o, A = some ⟨b, o, none⟩ ∧ Rd I F b (o + i) = some (.pointer (some ⟨gAt G idx[i], 0, none⟩)) := by
    intro i hi
    obtain ⟨b, o, us, hA, hu, hr, -⟩ := hv.at (i := i) (by simpa using hi)
    have hr' : us = [.pointer (some ⟨(idx.map fun k => (gAt G k))[i]'(by simpa using hi), 0, none⟩)] := hr
    subst hr'
    exact ⟨b, o, hA, by simpa using hu 0 (by simp)⟩
  refine c_trommelref21_Heads ?_
  unfold n_trommelref21_Heads
  refine rLoop1 (fun x w' => ∃ i : Nat, x = .int .i64 i ∧ i ≤ idx.length ∧ (∀ a (h : a < idx.length), a < i → idx.count idx[a] ≤ (lAt L idx[a]).length) ∧ St c I F (ManyH RefH G L :: As) w') (fun x _ => match x with | .int _ k => idx.length - k.toNat | _ => 0)
    ⟨0, rfl, Nat.zero_le _, fun a _ h => by omega, hs⟩ ?_
  clear hs
  rintro f w ag hag ⟨i, hi, hin, hok, hs⟩
  simp only [hi] at hag ⊢
  refine rLen <| rLss (rCond (fun hlt => ?_) fun hge => ?_)
  · have hil : i < idx.length := by omega
    obtain ⟨b, o, hA, hcell⟩ := hel i hil
    have hki := hidx idx[i] (List.getElem_mem hil)
    rw [hA]
    refine rLoop2 (fun x y w' => ∃ j : Nat, y = .int .i64 j ∧ j ≤ idx.length ∧ x = .int .i64 ((idx.take j).count idx[i] : Nat) ∧ St c I F (ManyH RefH G L :: As) w') (fun _ y _ => match y with | .int _ k => idx.length - k.toNat | _ => 0)
      ⟨0, rfl, Nat.zero_le _, by simp, hs⟩ ?_
    clear hs
    rintro f2 w ag2 hag2 ⟨j, hj, hjn, hx, hs⟩
    simp only [hj, hx] at hag2 ⊢
    have hcnt : (idx.take j).count idx[i] ≤ j := Nat.le_trans List.count_le_length (by simp; omega)
    refine rLen <| rLss (rCond (fun hlt2 => ?_) fun hge2 => ?_)
    · have hjl : j < idx.length := by omega
      obtain ⟨b2, o2, hA2, hcell2⟩ := hel j hjl
      have hkj := hidx idx[j] (List.getElem_mem hjl)
      rw [hA] at hA2
      cases hA2
      have hs := hs.drew
      obtain ⟨cs1, E1, hb1⟩ := ManyH.blk hs hl idx[i] hki
      obtain ⟨cs2, E2, hb2⟩ := ManyH.blk hs hl idx[j] hkj
      rw [gAt_el G (by omega)] at hcell hcell2
      refine ⟨fun l w' => l.getD 0 undef = .int .i64 ((idx.take (j + 1)).count idx[i] : Nat) ∧ St c I F (ManyH RefH G L :: As) w', ?_, fun f3 w3 h3 => ?_⟩
      · refine rS (fun _ h => h) <| rS (fun _ h => h) <| rS (fun _ h => rIA (by omega) (by omega) h) <| rS (fun _ h => rLoad (by simpa using hs.rdCell hcell2) h) <| rS (fun _ h => h) <| rS (fun _ h => h) <| rS (fun _ h => rIA (by omega) (by omega) h) <| rS (fun _ h => rLoad (by simpa using hs.rdCell hcell) h) <| rS (fun _ h => rEqlPP (by decide) hb2 hb1 h) ?_
        refine rCond (fun he => ?_) fun hne => ?_
        · have hij : idx[j] = idx[i] := by
            by_cases h : idx[j] = idx[i]
            · exact h
            · exact absurd he (ManyH.inj hs hl hkj hki h)
          refine rAdd (by omega) (by omega) ⟨?_, hs⟩
          rw [List.take_succ_eq_append_getElem hjl, List.count_append, hij]; simp
        · have hij : idx[j] ≠ idx[i] := fun h => hne (by simp only [h])
          refine ⟨?_, hs⟩
          rw [List.take_succ_eq_append_getElem hjl, List.count_append]; simp [hij]
      · obtain ⟨h4, hs⟩ := h3
        simp only [List.map_cons, List.map_nil, List.getD_cons_zero] at h4
        rw [h4]
        exact rAdd (by omega) (by omega) (hag2 _ _ _ ⟨j + 1, by simp, by omega, rfl, hs⟩ (by dsimp only; omega))
    · have : j = idx.length := by omega
      subst this
      rw [List.take_length]
      obtain ⟨R, h1, back⟩ := ManyH.get' hs hl idx[i] hki
      obtain ⟨v, hv1, hm1, h2⟩ := RefH.open h1
      obtain ⟨A5, c5, he5, _⟩ := hv1.rs.parts
      rw [he5] at h2
      refine rIA (by omega) (by omega) <| rLoad (by simpa using hs.rdCell hcell) <| rNil <| rFA <| rLdS h2 rfl <| rLen <| rLss (rCond (fun hfew => ?_) fun hen => ?_)
      · refine .inr ⟨?_, by trivial, hs⟩
        rw [enough, List.all_eq_false]
        exact ⟨idx[i], List.getElem_mem hil, by simp; omega⟩
      · refine rAdd (by omega) (by omega) (hag _ _ ⟨i + 1, by simp, by omega, fun a ha hai => ?_, hs⟩ (by dsimp only; omega))
        rcases Nat.lt_or_ge a i with h | h
        · exact hok a ha h
        · have : a = i := by omega
          subst this; omega
  · have hen : enough idx L = true := by
      rw [enough, List.all_eq_true]
      intro k hk
      obtain ⟨a, ha, rfl⟩ := List.getElem_of_mem hk
      simpa using hok a ha (by omega)
    refine rLoop2 (fun x y w' => ∃ j : Nat, y = .int .i64 j ∧ j ≤ idx.length ∧ St c I F (OwnSl Ty.int T_int x (takeHeads (idx.take j) L).1 :: ManyH RefH G (takeHeads (idx.take j) L).2 :: As) w') (fun _ y _ => match y with | .int _ k => idx.length - k.toNat | _ => 0)
      ⟨0, rfl, Nat.zero_le _, by simpa [takeHeads] using hs.ownNil Ty.int T_int⟩ ?_
    clear hs
    rintro f2 w ag2 hag2 ⟨j, hj, hjn, hs⟩
    generalize f2 7 = x at hs ⊢
    simp only [hj] at hag2 ⊢
    refine rLen <| rLss (rCond (fun hlt2 => ?_) fun hge2 => ?_)
    · have hjl : j < idx.length := by omega
      obtain ⟨b, o, hA, hcell⟩ := hel j hjl
      have hkj := hidx idx[j] (List.getElem_mem hjl)
      rw [hA]
      refine rIA (by omega) (by omega) (rLoad (by simpa using hs.rdCell hcell) ?_)
      have hlen := takeHeads_len (idx.take j) L
      have hout := takeHeads_out (idx.take j) L
      obtain ⟨R, h1, back⟩ := ManyH.get' hs.p1 (by omega) idx[j] (by omega)
      have hC := r_Take _ 1 _ _ h1
      refine rCall hC ?_; clear hC h1 hs
      rintro r w ⟨k, hk, hr, hs⟩
      refine rAppS hs.p2 hr.rd rfl (by rfl) (by decide) (by simp at hout ⊢; omega) (by decide) ?_
      clear hs
      intro x' w hs
      have hs := (back _ _ _ _ _ _ hs.p2.p2).p1
      refine rAdd (by omega) (by omega) (hag2 _ _ _ ⟨j + 1, by simp, by omega, ?_⟩ (by dsimp only; omega))
      rw [List.take_succ_eq_append_getElem hjl, takeHeads_append]
      have ek : ∀ l : List Int, (k : Int) = min (max 1 0) (l.length : Int) → l.take k = l.take 1 ∧ l.drop k = l.drop 1 := by
        intro l hl
        cases l with
        | nil => simp
        | cons y l => have : k = 1 := by simp at hl; omega
                      subst this; exact ⟨rfl, rfl⟩
      rw [(ek _ hk).1, (ek _ hk).2] at hs
      simpa [takeHeads] using hs
    · have : j = idx.length := by omega
      subst this
      rw [List.take_length] at hs
      exact .inl ⟨hen, x, rfl, hs⟩

/-- 'same': a queue and the reference's queue that hold the same -/
theorem s_same (g r : Nat) (most : Int) (l : List Int) (hs : St c I F (QueueH Ty.int T_queue_Queue_int T_int g most l :: RefH r most l :: As) w) :
    Calls Try.prog i_trommellaw21_same #[.pointer (some ⟨g, 0, none⟩), .pointer (some ⟨r, 0, none⟩)] w (callR (fun x w' => ∃ J, x = .bool true ∧ Gr F I J ∧ St c J F (QueueH Ty.int T_queue_Queue_int T_int g most l :: RefH r most l :: As) w') noP) := by
  refine c_trommellaw21_same ?_
  unfold n_trommellaw21_same
  have hC := s_All_int g most l hs
  refine rCall hC ?_; clear hC hs
  intro a w hs
  have hC := s_All_int g most l hs.p1
  refine rCall hC ?_; clear hC hs
  intro b w hs
  obtain ⟨_, hm, _⟩ := QueueH.open hs.p1
  have hC := m_OverInts a l hs.p2 (by omega)
  refine rCall hC ?_; clear hC hs
  rintro _ w hs
  obtain ⟨J, hJ, hb, hs⟩ := hs.lastSl (by omega)
  have hC := s_Peek_int g most l hs
  refine rCall hC ?_; clear hC hs
  rintro _ w ⟨rfl, hs⟩
  refine rEX0 <| rEX1 ?_
  obtain ⟨v, hv, hm', hs⟩ := RefH.open hs.p1
  obtain ⟨A2, c2, hve, hvc, hvc', hvl⟩ := hv.rs.parts
  rw [hve] at hs
  refine ⟨fun z w' => z.getD 0 undef = .int .i64 (l.headD 0) ∧ St c J F (Cells r [.slice A2 l.length c2, .int .i64 most] T_trommelref21_Queue :: QueueH Ty.int T_queue_Queue_int T_int g most l :: As) w', ?_, fun f3 w3 h3 => ?_⟩
  · refine rNil <| rFA <| rLdS hs rfl <| rLen <| rGtr (rCond (fun hp => ?_) fun hp => ?_)
    · rw [hve] at hv
      obtain ⟨bb, o, us, hA, hu, ⟨rfl, hr⟩, -⟩ := hv.rs.at (i := 0) (by omega)
      rw [hA]
      refine rNil <| rFA <| rLdS hs (by rw [hA]; rfl) <| rIA (by omega) (by omega) <| rLoad (by simpa using hs.pers _ _ _ (hu 0 (by simp))) ⟨?_, by rw [← hA]; exact hs⟩
      cases l with
      | nil => simp at hp
      | cons x l => rfl
    · refine ⟨?_, hs⟩
      have : l = [] := List.eq_nil_of_length_eq_zero (by omega)
      subst this; rfl
  · clear hs
    obtain ⟨h4, hs⟩ := h3
    simp only [List.map_cons, List.map_nil, List.getD_cons_zero] at h4
    rw [h4]
    rw [hve] at hv
    have hs := hs.drew
    refine ⟨fun w' => w'.cell? ⟨r, 0, none⟩ = some (.slice A2 l.length c2) ∧ w'.cell? ⟨r, 1, none⟩ = some (.int .i64 most), ⟨hs.cell 0, hs.cell 1⟩, ?_⟩
    refine rD rfl <| rNil <| rFA <| rHL (fun w1 h1 => h1.1) ?_
    have hC := m_SameInts b _ l l hs hb.rd hv.rd
    refine rCall hC ?_; clear hC hs
    rintro _ w ⟨rfl, hs⟩
    rw [decide_eq_true rfl]
    refine ⟨⟨hs.cell 0, hs.cell 1⟩, rG1 <| rG1 <| rD rfl <| rNil <| rG1 <| rFA <| rG1 ?_⟩
    have hC := q_Len _ _ _ g most l hs.p1
    refine rCall hC ?_; clear hC hs
    rintro _ w ⟨rfl, -, hs⟩
    have hs := hs.p1
    refine ⟨⟨hs.cell 0, hs.cell 1⟩, rG1 <| rG1 <| rD rfl <| rNil <| rG1 <| rFA <| rG1 <| rHL (fun w1 h1 => h1.1) <| rG1 <| rD rfl <| rLen <| rG1 <| rD rfl <| rEqlT rfl <| rPickT <| rG1 <| rG1 <| rD rfl <| rNil <| rG1 <| rFA <| rG1 ?_⟩
    have hC := q_Room _ _ _ g most l hs.p1
    refine rCall hC ?_; clear hC hs
    rintro _ w ⟨rfl, -, hs⟩
    have hs := hs.p1
    refine ⟨⟨hs.cell 0, hs.cell 1⟩, rG1 <| rG1 <| rD rfl <| rNil <| rG1 <| rFA <| rG1 <| rHL (fun w1 h1 => h1.2) <| rG1 <| rG1 <| rD rfl <| rNil <| rG1 <| rFA <| rG1 <| rHL (fun w1 h1 => h1.1) <| rG1 <| rD rfl <| rLen <| rG1 <| rD rfl <| rSub (by omega) (by omega) <| rG1 <| rD rfl <| rEqlT rfl <| rPickT <| rG1 <| rG1 <| rG1 <| rD rfl <| rEqlT rfl <| rPickT <| rG1 <| rG1 <| rG1 <| rD rfl <| rNil <| rG1 <| rFA <| rG1 <| rHL (fun w1 h1 => h1.1) <| rG1 <| rD rfl <| rLen <| rG1 <| rD rfl <| rGtr <| rG1 <| rD rfl <| rEqlB ?_⟩
    have e : decide (l ≠ []) = decide ((0 : Int) < (l.length : Int)) := by
      cases l with
      | nil => rfl
      | cons x l => simp
    rw [e]
    simp only [BEq.rfl]
    refine rPickT ⟨J, rfl, hJ, (RefH.shut hv hm' hs).p1⟩
end
end Go.Proofs.Ytahipnlffgbjgaa
