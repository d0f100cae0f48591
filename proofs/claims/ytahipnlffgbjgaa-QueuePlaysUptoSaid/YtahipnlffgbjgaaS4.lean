/- QueueHeads. -/
import Derived.Test.YtahipnlffgbjgaaS3
namespace Go.Proofs.Ytahipnlffgbjgaa
open Go L
set_option linter.unusedVariables false

theorem takeHeads_range' : ∀ (m s : Nat) (L : List (List Int)), s + m = L.length → takeHeads (List.range' s m) L = ((L.drop s).flatMap (List.take 1), L.take s ++ (L.drop s).map (List.drop 1)) := by
  intro m
  induction m with
  | zero => intro s L h; simp [takeHeads, List.drop_eq_nil_of_le (show L.length ≤ s by omega), List.take_of_length_le (show L.length ≤ s by omega)]
  | succ m ih =>
    intro s L h
    have hs : s < L.length := by omega
    rw [List.range'_succ, takeHeads, ih (s + 1) _ (by simp; omega), lAt_el L hs]
    have h1 : (L.set s (L[s].drop 1)).drop (s + 1) = L.drop (s + 1) := by rw [List.drop_set_of_lt (by omega)]
    have h2 : (L.set s (L[s].drop 1)).take (s + 1) = L.take s ++ [L[s].drop 1] := by
      rw [List.take_succ_eq_append_getElem (by simpa using hs)]
      simp [List.take_set_of_le]
    rw [h1, h2, List.drop_eq_getElem_cons hs]
    simp only [List.flatMap_cons, List.map_cons, List.append_assoc, List.singleton_append]
theorem takeHeads_range (L : List (List Int)) : takeHeads (List.range L.length) L = (L.flatMap (List.take 1), L.map (List.drop 1)) := by
  rw [List.range_eq_range', takeHeads_range' L.length 0 L (by omega)]; simp

theorem enough_range (L : List (List Int)) : enough (List.range L.length) L = true ↔ ∀ l ∈ L, l ≠ [] := by
  rw [enough, List.all_eq_true]
  have hc : ∀ k, k ∈ List.range L.length → (List.range L.length).count k = 1 := by
    intro k hk
    have h1 := List.nodup_iff_count.1 (List.nodup_range (n := L.length)) k
    have h2 := List.count_pos_iff.2 hk
    omega
  constructor
  · intro h l hl
    obtain ⟨i, hi, rfl⟩ := List.getElem_of_mem hl
    have hm : i ∈ List.range L.length := List.mem_range.2 hi
    have := h i hm
    rw [hc i hm, lAt_el L hi] at this
    intro e; rw [e] at this; simp at this
  · intro h k hk
    have hk' := List.mem_range.1 hk
    rw [hc k hk, lAt_el L hk']
    have := h L[k] (List.getElem_mem hk')
    have := List.length_pos_iff.2 this
    simp; omega

def leastOf (ls : List (List Int)) : Nat := ls.foldl (fun m l => min m (min l.length 16)) 16
theorem leastOf_snoc (ls : List (List Int)) (l : List Int) : leastOf (ls ++ [l]) = min (leastOf ls) (min l.length 16) := by simp [leastOf]
theorem leastOf_spec (ls : List (List Int)) : (∀ l ∈ ls, leastOf ls ≤ min l.length 16) ∧ leastOf ls ≤ 16 ∧ (leastOf ls = 16 ∨ ∃ l ∈ ls, leastOf ls = min l.length 16) := by
  unfold leastOf
  have key : ∀ (ls : List (List Int)) (a : Nat), (∀ l ∈ ls, ls.foldl (fun m l => min m (min l.length 16)) a ≤ min l.length 16) ∧ ls.foldl (fun m l => min m (min l.length 16)) a ≤ a ∧ (ls.foldl (fun m l => min m (min l.length 16)) a = a ∨ ∃ l ∈ ls, ls.foldl (fun m l => min m (min l.length 16)) a = min l.length 16) := by
    intro ls
    induction ls with
    | nil => intro a; simp
    | cons l ls ih =>
      intro a
      obtain ⟨h1, h2, h3⟩ := ih (min a (min l.length 16))
      refine ⟨fun x hx => ?_, by simp only [List.foldl_cons]; clear h3; omega, ?_⟩
      · rcases List.mem_cons.1 hx with rfl | h
        · clear h3; simp only [List.foldl_cons]; omega
        · exact h1 x h
      · rcases h3 with h | ⟨x, hx, e⟩
        · simp only [List.foldl_cons, h]
          rcases Nat.le_total a (min l.length 16) with h' | h'
          · left; omega
          · right; exact ⟨l, by simp, by omega⟩
        · right; exact ⟨x, by simp [hx], e⟩
  exact key ls 16

section
variable {c : World} {I : CM} {F : Hp} {As : List HP} {w : World}
theorem ManyH.snoc {f : Nat → Int → List Int → HP} {G : List (Nat × Int)} {L : List (List Int)} {g : Nat} {m : Int} {l : List Int} (hl : G.length = L.length) (hs : St c I F (f g m l :: ManyH f G L :: As) w) : St c I F (ManyH f (G ++ [(g, m)]) (L ++ [l]) :: As) w := by
  have h1 : St c I F ((List.zipWith (fun (g : Nat × Int) l => f g.1 g.2 l) G L) ++ (f g m l :: As)) w := hs.p1.all
  have e : List.zipWith (fun (g : Nat × Int) l => f g.1 g.2 l) (G ++ [(g, m)]) (L ++ [l]) = List.zipWith (fun (g : Nat × Int) l => f g.1 g.2 l) G L ++ [f g m l] := by
    rw [List.zipWith_append hl]; rfl
  unfold ManyH
  refine St.toAll ?_
  rw [e, List.append_assoc]; exact h1
theorem ManyH.nil (f : Nat → Int → List Int → HP) (hs : St c I F As w) : St c I F (ManyH f [] [] :: As) w := St.toAll (l := []) hs
end

theorem gs_range (gs : List Nat) : (List.range gs.length).map (gAt (gs.map fun g => (g, (16 : Int)))) = gs := by
  refine List.ext_getElem (by simp) fun i h1 h2 => ?_
  simp only [List.getElem_map, List.getElem_range]
  rw [gAt_el _ (by simpa using h2)]; simp

set_option maxHeartbeats 4000000 in
theorem law_QueueHeads (p0 : Value) (lists : List (List Int)) (w : World) (h1 : RSl (Ty.slice Ty.int) (hide w []) p0 lists) (hb : (bulkL (fun l => bulkL (fun _ => 1) l + 1) lists + 1) ≤ 1048576) :
    Calls Try.prog i_trommellaw21_QueueHeads #[p0] w (callR (fun r w' => r = .bool true ∧ Mod [] w w') noP) := by
  replace hb : lists.length ≤ 1048576 := by have := bulkL_len (fun l => bulkL (fun _ => 1) l + 1) (fun _ => by omega) lists; omega
  obtain ⟨F, hs, hbase⟩ := St.init w
  generalize hide w [] = I at h1 hs
  obtain ⟨A, cp, he, hcp, hcp', hlen⟩ := h1.rs.parts
  rw [he] at h1 ⊢
  have hel : ∀ k (hk : k < lists.length), ∃ b o v, A = some ⟨b, o, none⟩ ∧ I b (o + k) = some v ∧ RSl Ty.int I v lists[k] := by
    intro k hk
    obtain ⟨b, o, us, hA, hu, ⟨v, rfl, hr⟩, -⟩ := h1.rs.at (i := k) hk
    exact ⟨b, o, v, hA, by simpa using hu 0 (by simp), hr⟩
  refine c_trommellaw21_QueueHeads ?_
  unfold n_trommellaw21_QueueHeads
  have hC := s_fixed hs
  refine rCall hC ?_; clear hC hs
  rintro _ w1 ⟨rfl, J0, hJ0, hs⟩
  refine rNot (rFalse (rLen ?_))
  refine rLoop3 (fun x y z w' => ∃ (i : Nat) (gs : List Nat) (J : CM), z = .int .i64 i ∧ i ≤ lists.length ∧ gs.length = i ∧ y = .int .i64 (leastOf (lists.take i)) ∧ Gr F I J ∧
      St w J F [OwnSl Ty.ptr 25 x gs, QsH (gs.map fun g => (g, 16)) ((lists.take i).map (List.take 16))] w') (fun _ _ z _ => match z with | .int _ k => lists.length - k.toNat | _ => 0)
    ⟨0, [], J0, rfl, Nat.zero_le _, rfl, rfl, hJ0, (ManyH.nil _ hs).ownNil _ _⟩ ?_
  clear hs
  rintro f w1 ag hag ⟨i, gs, J, hi, hin, hgs, hy, hJ, hs⟩
  generalize f 3 = x at hs ⊢
  simp only [hi, hy] at hag ⊢
  refine rLss (rCond (fun hlt => ?_) fun hge => ?_)
  · have hil : i < lists.length := by omega
    obtain ⟨b, o, v, hA, hcell, hv⟩ := hel i hil
    rw [hA]
    refine rIA (by omega) (by omega) (rLoad (by simpa using hs.pers _ _ _ (hJ.le _ _ _ hcell)) ?_)
    have hC := s_New_int hs 16
    refine rCall hC ?_; clear hC hs
    rintro _ w1 ⟨g, rfl, hs⟩
    refine rEqlPN (rFalse ?_)
    have hC := s_Put_int g v _ [] lists[i] hs (hv.mono hJ.le).rd
    refine rCall hC ?_; clear hC hs
    rintro _ w1 ⟨k, rfl, hk, -, hs⟩
    refine rMin (rBuildSS hs [.pointer (some ⟨g, 0, none⟩)] (by decide) (by kernel_rfl) ?_); clear hs
    intro q w1 hs
    refine rApp1 (T := Ty.ptr) (x := g) hs.p2.p1 rfl rfl (by rfl) (by decide) (by omega) (by decide) ?_; clear hs
    intro x' w1 hs
    have hk' : k = min lists[i].length 16 := by simp only [List.length_nil] at hk; omega
    have ek : lists[i].take k = lists[i].take 16 := by
      rw [hk']
      rcases Nat.le_total lists[i].length 16 with h | h
      · rw [Nat.min_eq_left h, List.take_of_length_le (Nat.le_refl _), List.take_of_length_le h]
      · rw [Nat.min_eq_right h]
    rw [List.nil_append, ek] at hs
    have hz : (gs.map fun g => (g, (16 : Int))).length = ((lists.take i).map (List.take 16)).length := by simp; omega
    have hs := (ManyH.snoc hz hs.p2.p2).p1
    refine rAdd (by omega) (by omega) (hag _ _ _ _ ⟨i + 1, gs ++ [g], J, by simp, by omega, by simp [hgs], ?_, hJ, ?_⟩ (by dsimp only; omega))
    · rw [List.take_succ_eq_append_getElem hil, leastOf_snoc, hk']; simp; omega
    · rw [List.take_succ_eq_append_getElem hil, List.map_append, List.map_append]; exact hs
  have hin' : i = lists.length := by omega
  subst hin'
  clear hag
  rw [List.take_length] at hs ⊢
  obtain ⟨hl1, hl2, hl3⟩ := leastOf_spec lists
  generalize leastOf lists = m at *
  obtain ⟨J1, hJ1, hx, hs⟩ := hs.lastSl (by omega)
  have hJ' := hJ.trans hJ1
  obtain ⟨A2, c2, he2, hc2, hc2', -⟩ := hx.rs.parts
  have hgl : (gs.map fun g => (g, (16 : Int))).length = lists.length := by simp [hgs]
  have hidx : (List.range lists.length).map (gAt (gs.map fun g => (g, (16 : Int)))) = gs := by rw [← hgs]; exact gs_range gs
  have hxi : RS Ty.ptr (Rd J1 F) J1 x ((List.range lists.length).map fun k => gAt (gs.map fun g => (g, (16 : Int))) k) := by
    have : ((List.range lists.length).map fun k => gAt (gs.map fun g => (g, (16 : Int))) k) = gs := hidx
    rw [this]; exact hx.rd
  refine rLen (rEql (rCond (fun h0 => ?_) fun h0 => ?_))
  · have hnil : lists = [] := List.eq_nil_of_length_eq_zero (by omega)
    have hC := s_Heads (gs.map fun g => (g, 16)) _ [] (.slice none 0 0) hs (by simp [hgs]) (by simp) RS.nil (by simp)
    refine rCall hC ?_; clear hC hs
    rintro r w1 (⟨_, v', rfl, hs⟩ | ⟨he, _⟩)
    · obtain ⟨A3, c3, he3, _⟩ := hs.sl
      rw [he3]
      refine rEX0 (rEX1 (rG1 (rG1 (rLen (rG1 (rEqlT rfl (rPickT ⟨rfl, hbase hs⟩)))))))
    · simp [enough] at he
  · have hpos : 0 < lists.length := by omega
    refine rLoop1 (fun z w' => ∃ (i : Nat) (J : CM), z = .int .i64 i ∧ i ≤ m ∧ Gr F J1 J ∧ St w J F [QsH (gs.map fun g => (g, 16)) (lists.map fun l => (l.take 16).drop i)] w') (fun z _ => match z with | .int _ k => m - k.toNat | _ => 0)
      ⟨0, J1, rfl, Nat.zero_le _, Gr.refl _ _, by simpa using hs⟩ ?_
    clear hs
    rintro f2 w1 ag2 hag2 ⟨i, J, hi, him, hJ2, hs⟩
    simp only [hi] at hag2 ⊢
    have hC := s_Heads (gs.map fun g => (g, 16)) _ (List.range lists.length) x hs (by simp [hgs]) (by simp) (hxi.gr hJ2) (by simpa using hb)
    have elen : (lists.map fun l => (l.take 16).drop i).length = lists.length := by simp
    have eth := takeHeads_range (lists.map fun l => (l.take 16).drop i)
    have een := enough_range (lists.map fun l => (l.take 16).drop i)
    rw [elen] at eth een
    refine rLss (rCond (fun hlt => ?_) fun hge => ?_)
    · have hil : i < m := by omega
      refine rCall hC ?_; clear hC hs
      have hne : ∀ l ∈ lists, i < l.length ∧ i < 16 := fun l hl => by have := hl1 l hl; omega
      have hen : enough (List.range lists.length) (lists.map fun l => (l.take 16).drop i) = true := een.2 fun l hl => by
        obtain ⟨l', hl', rfl⟩ := List.mem_map.1 hl
        have := hne l' hl'
        intro e
        have := congrArg List.length e
        simp at this; omega
      rintro r w1 (⟨_, v', rfl, hs⟩ | ⟨he, _⟩)
      · rw [eth] at hs
        have eout : (lists.map fun l => (l.take 16).drop i).flatMap (List.take 1) = lists.map fun l => l.getD i 0 := by
          have key : ∀ ls : List (List Int), (∀ l ∈ ls, i < l.length ∧ i < 16) → (ls.map fun l => (l.take 16).drop i).flatMap (List.take 1) = ls.map fun l => l.getD i 0 := by
            intro ls
            induction ls with
            | nil => intro _; rfl
            | cons l ls ih =>
              intro h
              have hl := h l (by simp)
              have e1 : ((l.take 16).drop i).take 1 = [l.getD i 0] := by
                rw [List.drop_eq_getElem_cons (by simp; omega)]
                simp [List.getD, List.getElem?_eq_getElem hl.1]
              have e2 := ih fun x hx => h x (by simp [hx])
              rw [List.map_cons, List.flatMap_cons, List.map_cons, e1, e2]; rfl
          exact key lists hne
        have etl : (lists.map fun l => (l.take 16).drop i).map (List.drop 1) = lists.map fun l => (l.take 16).drop (i + 1) := by
          rw [List.map_map]; refine List.map_congr_left fun l _ => ?_
          simp [List.drop_drop]
        rw [eout, etl] at hs
        dsimp only at hs
        have holen : (lists.map fun l => l.getD i 0).length = lists.length := by simp
        obtain ⟨J3, hJ3, hr, hs⟩ := hs.lastSl (by simp; omega)
        obtain ⟨A3, c3, he3, _⟩ := hr.rs.parts
        rw [he3] at hr ⊢
        refine rEX0 <| rEX1 <| rNot <| rG1 <| rG1 <| rLen <| rG1 <| rG1 <| rLen <| rG1 <| rNeqF (by simp) <| rPickF <| rFalse <| rLen ?_
        refine rLoop1 (fun z w' => ∃ (k : Nat), z = .int .i64 k ∧ k ≤ lists.length ∧ St w J3 F [QsH (gs.map fun g => (g, 16)) (lists.map fun l => (l.take 16).drop (i + 1))] w') (fun z _ => match z with | .int _ k => lists.length - k.toNat | _ => 0)
          ⟨0, rfl, Nat.zero_le _, hs⟩ ?_
        clear hs
        rintro f3 w1 ag3 hag3 ⟨k, hk, hkn, hs⟩
        simp only [hk] at hag3 ⊢
        refine rLss (rCond (fun hlt3 => ?_) fun hge3 => ?_)
        · have hkl : k < lists.length := by omega
          obtain ⟨b, o, v, hA, hcell, hv⟩ := hel k hkl
          obtain ⟨b3, o3, us3, hA3, hu3, ⟨rfl, hn3⟩, -⟩ := hr.rs.at (i := k) (by omega)
          have hv' := hv
          obtain ⟨Av, cv, hev, _⟩ := hv.rs.parts
          rw [hev] at hcell hv
          obtain ⟨b4, o4, us4, hA4, hu4, ⟨rfl, hn4⟩, -⟩ := hv.rs.at (i := i) (hne _ (List.getElem_mem hkl)).1
          have hs := hs.drew
          have hle := (hJ'.trans (hJ2.trans hJ3)).le
          rw [hA, hA3]
          rw [hA4] at hcell
          refine rIA (by omega) (by omega) (rLD (by simpa using hs.pers _ _ _ (hu3 0 (by simp))) (rIA (by omega) (by omega) (rLD (by simpa using hs.pers _ _ _ (hle _ _ _ hcell)) (rIA (by omega) (by have := (hne _ (List.getElem_mem hkl)).1; omega) (rLD (by simpa using hs.pers _ _ _ (hle _ _ _ (hu4 0 (by simp)))) (rD rfl (rNeqF ?_ (rFalse (rAdd (by omega) (by omega) (hag3 _ _ ⟨k + 1, by simp, by omega, hs⟩ (by dsimp only; omega)))))))))))
          have := (hne _ (List.getElem_mem hkl)).1
          simp [List.getD, List.getElem?_eq_getElem this]
        · exact rAdd (by omega) (by omega) (hag2 _ _ ⟨i + 1, J3, by simp, by omega, hJ2.trans hJ3, hs⟩ (by dsimp only; omega))
      · rw [hen] at he; cases he
    · have him' : i = m := by omega
      subst him'
      refine rCall hC ?_; clear hC hs
      rintro r w1 (⟨he, _⟩ | ⟨_, rfl, hs⟩)
      · exfalso
        have hall := een.1 he
        rcases hl3 with h16 | ⟨l, hl, e⟩
        · have hl := List.getElem_mem hpos
          have := hall _ (List.mem_map.2 ⟨_, hl, rfl⟩)
          exact this (List.drop_eq_nil_of_le (by simp; omega))
        · have := hall _ (List.mem_map.2 ⟨_, hl, rfl⟩)
          exact this (List.drop_eq_nil_of_le (by simp; omega))
      rw [he2]
      refine rEX0 <| rEX1 <| rLen ?_
      refine rLoop1 (fun z w' => ∃ (k : Nat) (J' : CM), z = .int .i64 k ∧ k ≤ lists.length ∧ Gr F J J' ∧ St w J' F [QsH (gs.map fun g => (g, 16)) (lists.map fun l => (l.take 16).drop i)] w') (fun z _ => match z with | .int _ k => lists.length - k.toNat | _ => 0)
        ⟨0, J, rfl, Nat.zero_le _, Gr.refl _ _, hs⟩ ?_
      clear hs
      rintro f3 w1 ag3 hag3 ⟨k, J3, hk, hkn, hJ3, hs⟩
      simp only [hk] at hag3 ⊢
      refine rLss (rCond (fun hlt3 => ?_) fun hge3 => ?_)
      · have hkl : k < lists.length := by omega
        obtain ⟨b, o, v, hA, hcell, hv⟩ := hel k hkl
        obtain ⟨Av, cv, hev, hcv1, hcv2, _⟩ := hv.rs.parts
        rw [hev] at hcell hv
        rw [he2] at hx
        obtain ⟨b3, o3, us3, hA3, hu3, hr3, -⟩ := hx.rs.at (i := k) (by omega)
        have hr3' : us3 = [.pointer (some ⟨gs[k], 0, none⟩)] := hr3
        subst hr3'
        rw [hA, hA3]
        have hle := (hJ'.trans (hJ2.trans hJ3)).le
        refine rIA (by omega) (by omega) (rLoad (by simpa using hs.pers _ _ _ (hJ3.le _ _ _ (hJ2.le _ _ _ (hu3 0 (by simp))))) ?_)
        have hs := hs.drew
        refine ⟨Pers J3, hs.persI (CM.le.refl _), ?_⟩
        obtain ⟨R, hs, back⟩ := ManyH.get' hs (by simp [hgs]) k (by simp; omega)
        rw [gAt_el _ (by simp; omega), mAt_el _ (by simp; omega)] at hs back
        rw [lAt_el _ (by simp; omega)] at hs
        simp only [List.getElem_map] at hs back
        have hC := s_All_int _ _ _ hs
        refine rCall hC ?_; clear hC hs
        intro r1 w1 hs
        refine ⟨hs.persI (CM.le.refl _), rIA (by omega) (by omega) (rHLP (by simpa using hle _ _ _ hcell) (rIA (by omega) (by omega) (rHLP (by simpa using hle _ _ _ hcell) ?_)))⟩
        have hlk := hl1 _ (List.getElem_mem hkl)
        refine rD rfl (rLen (rD rfl (rMin (rSL (l := i) (m := min lists[k].length 16) (.inr ⟨.i64, rfl⟩) (.inr ⟨.i64, by simp; omega⟩) (by omega) (by omega) ?_))))
        obtain ⟨J4, hJ4, hr1, hs⟩ := hs.lastSl (by simp; omega)
        have hs := back _ _ _ _ _ _ hs
        have hcut := (hv.mono (hle.trans hJ4.le)).cut (lo := i) (m := min lists[k].length 16) (by omega) (by omega)
        have hC := s_SameInts _ _ _ _ hs hr1.rd hcut.rd
        refine rCall hC ?_; clear hC
        rintro _ w2 ⟨rfl, hs⟩
        have eq : (lists[k].take 16).drop i = (lists[k].drop i).take (min lists[k].length 16 - i) := by
          rw [List.drop_take]
          rcases Nat.le_total lists[k].length 16 with h | h
          · rw [Nat.min_eq_left h, List.take_of_length_le (by simp; omega), List.take_of_length_le (by simp)]
          · rw [Nat.min_eq_right h]
        rw [decide_eq_true eq]
        refine rNot <| rFalse (rAdd (by omega) (by omega) (hag3 _ _ ⟨k + 1, J4, by simp, by omega, hJ3.trans hJ4, ?_⟩ (by dsimp only; omega)))
        have e : (lists.map fun l => (l.take 16).drop i).set k ((lists[k].take 16).drop i) = lists.map fun l => (l.take 16).drop i := by
          refine List.ext_getElem (by simp) fun a h1 h2 => ?_
          simp only [List.getElem_set, List.getElem_map]
          by_cases hka : k = a
          · subst hka; simp
          · simp [hka]
        rw [e] at hs
        exact hs
      · exact rNot <| rG1 <| rG1 <| rLen <| rG1 <| rEqlT rfl <| rPickT ⟨rfl, hbase hs⟩
end Go.Proofs.Ytahipnlffgbjgaa
