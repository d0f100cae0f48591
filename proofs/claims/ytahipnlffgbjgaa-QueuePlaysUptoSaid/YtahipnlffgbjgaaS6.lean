/- QueuePlays. -/
import Derived.Test.YtahipnlffgbjgaaS5
namespace Go.Proofs.Ytahipnlffgbjgaa
open Go L
set_option linter.unusedVariables false

def ptrsOf (G : List (Nat × Int)) : List Value := G.map fun g => .pointer (some ⟨g.1, 0, none⟩)
theorem ptrsOf_get (G : List (Nat × Int)) {k : Nat} (h : k < G.length) : (ptrsOf G)[k]? = some (.pointer (some ⟨gAt G k, 0, none⟩)) := by
  rw [gAt_el G h]; simp [ptrsOf, h]
theorem ptrsOf_set (G : List (Nat × Int)) (k : Nat) (g : Nat) (m : Int) : (ptrsOf G).set k (.pointer (some ⟨g, 0, none⟩)) = ptrsOf (G.set k (g, m)) := by
  simp [ptrsOf, List.map_set]

section
variable {c : World} {I : CM} {F : Hp} {As : List HP} {w : World}
theorem ManyH.setNew {f : Nat → Int → List Int → HP} {G : List (Nat × Int)} {L : List (List Int)} {g : Nat} {m : Int} {x : List Int} (hl : G.length = L.length) (k : Nat) (hk : k < L.length) (hs : St c I F (f g m x :: ManyH f G L :: As) w) : St c I F (ManyH f (G.set k (g, m)) (L.set k x) :: As) w := by
  have hz : k < (List.zipWith (fun (g : Nat × Int) l => f g.1 g.2 l) G L).length := by simp; omega
  have h1 := St.allAt hs.p1 k hz
  have h2 := St.allSet (A := f g m x) hz h1.drop.p1
  have e : (List.zipWith (fun (g : Nat × Int) l => f g.1 g.2 l) G L).set k (f g m x) = List.zipWith (fun (g : Nat × Int) l => f g.1 g.2 l) (G.set k (g, m)) (L.set k x) := by
    refine List.ext_getElem (by simp) fun i h1 h2 => ?_
    simp only [List.getElem_set, List.getElem_zipWith]
    by_cases hki : k = i
    · simp [hki]
    · simp [hki]
  unfold ManyH; rw [← e]; exact h2
end

def and3 (a : Int) : Nat := (BitVec.ofInt 64 a &&& 3#64).toNat
theorem and3_lt (a : Int) : and3 a < 4 := by
  unfold and3
  rw [BitVec.toNat_and]
  have : (3#64).toNat = 2 ^ 2 - 1 := rfl
  rw [this, Nat.and_two_pow_sub_one_eq_mod]; omega

structure QP (c : World) (I : CM) (F : Hp) (t3 t4 : Nat) (G R : List (Nat × Int)) (L : List (List Int)) (Bs : List HP) (w : World) : Prop where
  g : G.length = 4
  r : R.length = 4
  l : L.length = 4
  m : ∀ k, k < 4 → mAt G k = mAt R k
  s : St c I F (Cells t3 (ptrsOf G) 57 :: Cells t4 (ptrsOf R) 59 :: QsH G L :: ManyH RefH R L :: Bs) w

theorem rAnd3 {Kp : PK} {K : VK} {w : World} {t : Nat} {ox oy : Operand} {a : Int} (hk : K (.int .i64 (and3 a : Nat)) w) : oBin Try.prog .and t ox oy (.int .i64 a) (.int .i64 3) Kp w K := by
  refine rAnd ?_
  have h := and3_lt a
  have e : IntKind.i64.wrap ((BitVec.ofInt 64 a &&& BitVec.ofInt 64 3).toNat : Nat) = ((and3 a : Nat) : Int) := by
    have : (BitVec.ofInt 64 a &&& BitVec.ofInt 64 3).toNat = and3 a := rfl
    rw [this]
    exact IntWalk.i64_in _ ⟨by omega, by omega⟩
  rw [e]; exact hk

section
variable {c : World} {I : CM} {F : Hp} {Bs : List HP} {w : World}
theorem QP.drew {t3 t4 : Nat} {G R : List (Nat × Int)} {L : List (List Int)} (h : QP c I F t3 t4 G R L Bs w) : QP c I F t3 t4 G R L Bs w.drew := ⟨h.g, h.r, h.l, h.m, h.s.drew⟩
theorem QP.c3 {t3 t4 : Nat} {G R : List (Nat × Int)} {L : List (List Int)} (h : QP c I F t3 t4 G R L Bs w) {k : Nat} (hk : k < 4) : w.cell? ⟨t3, k, none⟩ = some (.pointer (some ⟨gAt G k, 0, none⟩)) := by
  rw [h.s.cell]; exact ptrsOf_get G (by rw [h.g]; exact hk)
theorem QP.c4 {t3 t4 : Nat} {G R : List (Nat × Int)} {L : List (List Int)} (h : QP c I F t3 t4 G R L Bs w) {k : Nat} (hk : k < 4) : w.cell? ⟨t4, k, none⟩ = some (.pointer (some ⟨gAt R k, 0, none⟩)) := by
  rw [h.s.p1.cell]; exact ptrsOf_get R (by rw [h.r]; exact hk)
end

set_option maxHeartbeats 4000000 in
theorem law_QueuePlays (p0 : Value) (script : List D_trommellaw21_Op) (w : World) (h1 : RSl Ty_trommellaw21_Op (hide w []) p0 script) (hb : bulkL bulk_trommellaw21_Op script + 1 ≤ 1048576) :
    Calls Try.prog i_trommellaw21_QueuePlays #[p0] w (callR (fun r w' => r = .bool true ∧ Mod [] w w') noP) := by
  obtain ⟨F, hs, hbase⟩ := St.init w
  generalize hide w [] = I at h1 hs
  obtain ⟨A, cp, he, hcp, hcp', hlen⟩ := h1.rs.parts
  rw [he] at h1 ⊢
  refine c_trommellaw21_QueuePlays ?_
  unfold n_trommellaw21_QueuePlays
  have hC := s_fixed hs
  refine rCall hC ?_; clear hC hs
  rintro _ w1 ⟨rfl, J0, hJ0, hs⟩
  refine rNot <| rFalse <| rAllocS hs [.pointer none, .pointer none, .pointer none, .pointer none] rfl ?_; clear hs
  intro t3 w1 hs
  refine rAllocS hs [.pointer none, .pointer none, .pointer none, .pointer none] rfl ?_; clear hs
  intro t4 w1 hs
  refine rLoop1 (fun x w' => ∃ (k : Nat) (G R : List (Nat × Int)), x = .int .i64 k ∧ k ≤ 4 ∧ G.length = k ∧ R.length = k ∧ (∀ j, j < k → mAt G j = mAt R j) ∧
      St w J0 F [Cells t3 (ptrsOf G ++ List.replicate (4 - k) (.pointer none)) 57, Cells t4 (ptrsOf R ++ List.replicate (4 - k) (.pointer none)) 59, QsH G (List.replicate k []), ManyH RefH R (List.replicate k [])] w') (fun x _ => match x with | .int _ k => 4 - k.toNat | _ => 0)
    ⟨0, [], [], rfl, by omega, rfl, rfl, fun j h => by omega, (ManyH.nil _ (ManyH.nil _ hs)).p2.p3⟩ ?_
  clear hs
  rintro f w1 ag hag ⟨k, G, R, hk, hk4, hG, hR, hm, hs⟩
  simp only [hk] at hag ⊢
  refine rLss (rCond (fun hlt => ?_) fun hge => ?_)
  · have hs := hs.drew
    have hC := s_New_int hs k
    refine rCall hC ?_; clear hC hs
    rintro _ w1 ⟨g, rfl, hs⟩
    have hC := r_New hs k
    refine rCall hC ?_; clear hC hs
    rintro _ w1 ⟨r, rfl, hs⟩
    have e1 : ∀ (G : List (Nat × Int)) (g : Nat) (m : Int), G.length = k → (ptrsOf G ++ List.replicate (4 - k) (Value.pointer none)).set k (.pointer (some ⟨g, 0, none⟩)) = ptrsOf (G ++ [(g, m)]) ++ List.replicate (4 - (k + 1)) (.pointer none) := by
      intro G g m hG
      have : 4 - k = (4 - (k + 1)) + 1 := by omega
      rw [this, List.replicate_succ, List.set_append_right _ _ (by simp [ptrsOf, hG])]
      simp [ptrsOf, hG]
    refine rIAA (by omega) (by omega) <| rStS hs.p2 (by simp [ptrsOf, hG]; omega) rfl ?_; clear hs
    intro w1 hs
    rw [show 0 + (k : Int).toNat * 1 = k by omega, e1 G g (min (max (k : Int) 1) 16) hG] at hs
    refine rIAA (by omega) (by omega) <| rStS hs.p3 (by simp [ptrsOf, hR]; omega) rfl ?_; clear hs
    intro w1 hs
    rw [show 0 + (k : Int).toNat * 1 = k by omega, e1 R r (min (max (k : Int) 1) 16) hR] at hs
    have hcell := hs.p1.cell k
    rw [List.getElem?_append_left (by simp [ptrsOf, hG]), ptrsOf_get _ (by simp [hG]), gAt_el _ (by simp [hG])] at hcell
    simp only [List.getElem_append_right (show G.length ≤ k by omega), hG, Nat.sub_self, List.getElem_cons_zero] at hcell
    refine rIAA (by omega) (by omega) <| rLoad (by rw [show 0 + (k : Int).toNat * 1 = k by omega]; exact hcell) <| rEqlPN <| rFalse <| rAdd (by omega) (by omega) (hag _ _ ⟨k + 1, G ++ [(g, min (max (k : Int) 1) 16)], R ++ [(r, min (max (k : Int) 1) 16)], by simp, by omega, by simp [hG], by simp [hR], fun j hj => ?_, ?_⟩ (by dsimp only; omega))
    · rw [mAt_el _ (by simp [hG]; omega), mAt_el _ (by simp [hR]; omega)]
      by_cases hjk : j < k
      · have := hm j hjk
        rw [mAt_el _ (by omega), mAt_el _ (by omega)] at this
        rw [List.getElem_append_left (by omega), List.getElem_append_left (by omega)]; exact this
      · have : j = k := by omega
        subst this
        simp [List.getElem_append_right, hG, hR]
    · have h2 := ManyH.snoc (by simp [hG]) hs.p4.p4
      have h3 := (ManyH.snoc (by simp [hR]) h2.p4.p4).p1.p2.p3
      rw [List.replicate_succ']
      exact h3
  · have hk4' : k = 4 := by omega
    subst hk4'
    have hQ : QP w J0 F t3 t4 G R (List.replicate 4 []) [] w1 := ⟨hG, hR, rfl, hm, by simpa using hs⟩
    clear hs hag
    refine rLen ?_
    refine rLoop1 (fun x w' => ∃ (i : Nat) (G R : List (Nat × Int)) (L : List (List Int)) (J : CM), x = .int .i64 i ∧ i ≤ script.length ∧ Gr F I J ∧ QP w J F t3 t4 G R L [] w') (fun x _ => match x with | .int _ k => script.length - k.toNat | _ => 0)
      ⟨0, G, R, _, J0, rfl, Nat.zero_le _, hJ0, hQ⟩ ?_
    clear hQ hG hR hm
    rintro f2 w1 ag2 hag2 ⟨i, G, R, L, J, hi, hin, hJ, hQ⟩
    simp only [hi] at hag2 ⊢
    refine rLss (rCond (fun hlt => ?_) fun hge => ?_)
    · obtain ⟨b, o, us, hA, hu, ⟨v2, rfl, hk1, hk2, hsl, hk3⟩, -⟩ := h1.rs.at (i := i) (by omega)
      have hbi : script[i].items.length ≤ 1048576 := by
        have h1 := bulkL_get bulk_trommellaw21_Op script i (by omega)
        have h2 := bulkL_len (fun _ : Int => 1) (fun _ => Nat.le_refl _) script[i].items
        simp only [bulk_trommellaw21_Op] at h1; omega
      generalize script[i] = op at *
      have hcell := fun j hj => hQ.s.pers _ _ _ (hJ.le _ _ _ (hu j hj))
      obtain ⟨A2, c2, hve, hcc2, _, hl2⟩ := hsl.rs.parts
      rw [hve] at hcell hsl
      rw [hA]
      refine rIA (by omega) (by omega) (rLoadN [.int .i64 op.kind, .int .i64 op.which, .slice A2 op.items.length c2, .int .i64 op.n] rfl (by simpa using hcell) ?_)
      refine rAllocS hQ.s [.int .i64 0, .int .i64 0, .slice none 0 0, .int .i64 0] rfl ?_
      intro t w1 hs
      refine rStNS hs rfl (by simp) (by simp; exact ⟨rfl, rfl, rfl, rfl⟩) ?_; clear hs
      intro w1 hs
      obtain ⟨J1, hJ1, ht, hs⟩ := hs.lastCells
      simp at ht
      have hJ' := hJ.trans hJ1
      have hsl := hsl.mono hJ'.le
      refine rFA <| rLoad (hs.pers _ _ _ (ht 1 _ rfl)) <| rAnd3 ?_
      obtain ⟨k, hk⟩ : ∃ k, k = and3 op.which := ⟨_, rfl⟩
      have hk4 : k < 4 := by rw [hk]; exact and3_lt _
      rw [← hk]
      refine rFA <| rLoad (hs.pers _ _ _ (ht 2 _ rfl)) ?_
      have hC := m_Ints _ op.items hs hsl.rd hbi
      refine rCall hC ?_; clear hC hs
      intro mine w1 hs
      obtain ⟨Am, cm, hme, hs⟩ := OwnSp.open hs
      rw [hme]
      have hQ1 : QP w J1 F t3 t4 G R L [OwnSl Ty.int T_int (.slice Am (op.items ++ [-77, -78]).length cm) (op.items ++ [-77, -78])] w1 := ⟨hQ.g, hQ.r, hQ.l, hQ.m, hs.p4.p4.p4.p4⟩
      clear hQ hs
      refine ⟨fun z w' => z.getD 0 undef = .bool true ∧ ∃ G R L J', Gr F J1 J' ∧ QP w J' F t3 t4 G R L [OwnSl Ty.int T_int (.slice Am (op.items ++ [-77, -78]).length cm) (op.items ++ [-77, -78])] w', ?_, fun g3 w8 h8 => ?_⟩
      · have hk0 : (0 : Int) ≤ (k : Int) := by omega
        have hkk : 0 + (k : Int).toNat * 1 = k := by omega
        refine rFA <| rLoad (hQ1.s.pers _ _ _ (ht 0 _ rfl)) <| rEql (rCond (fun hnew => ?_) fun hx => rEql (rCond (fun hput => ?_) fun hx => rEql (rCond (fun htake => ?_) fun hx => rEql (rCond (fun hheads => ?_) fun hx => ?_))))
        · -- KNew
          have hQ1 := hQ1.drew
          refine ⟨Pers J1, hQ1.s.persI (CM.le.refl _), rFA <| rHLP (ht 3 _ rfl) ?_⟩
          have hC := s_New_int hQ1.s op.n
          refine rCall hC ?_; clear hC
          rintro _ w1 ⟨g, rfl, hs⟩
          refine ⟨hs.persI (CM.le.refl _), rFA <| rHLP (ht 3 _ rfl) ?_⟩
          have hC := r_New hs op.n
          refine rCall hC ?_; clear hC hs
          rintro _ w1 ⟨r, rfl, hs⟩
          refine rIAA hk0 (by omega) <| rStS hs.p2 (by simp [ptrsOf, hQ1.g]; omega) rfl ?_; clear hs
          intro w1 hs
          rw [hkk, ptrsOf_set G k g (min (max op.n 1) 16)] at hs
          refine rIAA hk0 (by omega) <| rStS hs.p3 (by simp [ptrsOf, hQ1.r]; omega) rfl ?_; clear hs
          intro w1 hs
          rw [hkk, ptrsOf_set R k r (min (max op.n 1) 16)] at hs
          have h2 := ManyH.setNew (by rw [hQ1.g, hQ1.l]) k (by rw [hQ1.l]; exact hk4) hs.p4.p4
          have h3 := (ManyH.setNew (by rw [hQ1.r, hQ1.l]) k (by rw [hQ1.l]; exact hk4) h2.p4.p4).p1.p2.p3
          have hQ2 : QP w J1 F t3 t4 (G.set k (g, min (max op.n 1) 16)) (R.set k (r, min (max op.n 1) 16)) (L.set k []) [OwnSl Ty.int T_int (.slice Am (op.items ++ [-77, -78]).length cm) (op.items ++ [-77, -78])] w1 := by
            refine ⟨by simp [hQ1.g], by simp [hQ1.r], by simp [hQ1.l], fun j hj => ?_, h3⟩
            have hg := hQ1.g; have hr := hQ1.r
            rw [mAt_el _ (by simp [hg]; omega), mAt_el _ (by simp [hr]; omega)]
            simp only [List.getElem_set]
            by_cases hkj : k = j
            · simp [hkj]
            · simp only [hkj, if_false]
              have := hQ1.m j hj
              rw [mAt_el _ (by omega), mAt_el _ (by omega)] at this
              exact this
          have hc := hQ2.c3 hk4
          refine rIAA hk0 (by omega) <| rLoad (by rw [hkk]; exact hc) ?_
          refine rNeqPN ⟨rfl, _, _, _, J1, Gr.refl _ _, hQ2⟩
        · -- KPut
          have hQ1 := hQ1.drew
          have c3 := hQ1.c3 hk4
          have c4 := hQ1.c4 hk4
          obtain ⟨R1, h2, back⟩ := ManyH.get' hQ1.s.p2 (by rw [hQ1.g, hQ1.l]) k (by rw [hQ1.l]; exact hk4)
          refine ⟨fun w' => Pers J1 w' ∧ w'.cell? ⟨t3, k, none⟩ = some (.pointer (some ⟨gAt G k, 0, none⟩)) ∧ w'.cell? ⟨t4, k, none⟩ = some (.pointer (some ⟨gAt R k, 0, none⟩)), ⟨hQ1.s.persI (CM.le.refl _), c3, c4⟩, ?_⟩
          refine rIAA hk0 (by omega) <| rHL (fun w1 h1 => by rw [hkk]; exact h1.2.1) ?_
          obtain ⟨F', hF, hr, h3, bk⟩ := (h2.p5).lendSl (by simp; omega)
          have hr := hr.take0 (m := op.items.length) (by simp)
          rw [List.take_left] at hr
          have hC := s_Put_int _ _ _ _ op.items h3 hr
          refine rCall hC ?_; clear hC h2 h3
          rintro _ w1 ⟨kk, rfl, hkk1, hmm, h3⟩
          obtain ⟨-, h4⟩ := bk _ _ _ (Gr.refl _ _) h3
          have h5 := back _ _ _ _ _ _ h4.p2.p2
          have d3 := (h5.p2.cell k).trans (ptrsOf_get G (by rw [hQ1.g]; exact hk4))
          have d4 := (h5.p3.cell k).trans (ptrsOf_get R (by rw [hQ1.r]; exact hk4))
          refine ⟨⟨h5.persI (CM.le.refl _), d3, d4⟩, rIAA hk0 (by omega) <| rHL (fun w1 h1 => by rw [hkk]; exact h1.2.2) <| rFA <| rHL (fun w1 h1 => h1.1 _ _ _ (ht 2 _ rfl)) ?_⟩
          obtain ⟨R2, h6, back2⟩ := ManyH.get' h5.p4 (by rw [hQ1.r, hQ1.l]) k (by rw [hQ1.l]; exact hk4)
          have hC := r_Put _ _ _ _ op.items h6 hsl.rd
          refine rCall hC ?_; clear hC h5 h6 h4 h3
          rintro _ w1 ⟨k2, J2, rfl, hk2', hJ2, h6⟩
          have h7 := (back2 _ _ _ _ _ _ h6).p2.p1.p2.p4.p4
          have hmk := hQ1.m k hk4
          obtain rfl : k2 = kk := by omega
          refine rD rfl <| rEqlT rfl ⟨rfl, G, R, _, J2, hJ2, hQ1.g, hQ1.r, by simp [hQ1.l], hQ1.m, h7⟩
        · -- KTake
          have hQ1 := hQ1.drew
          have c3 := hQ1.c3 hk4
          refine rIAA hk0 (by omega) <| rLD (by rw [hkk]; exact c3) <| rFA <| rLD (hQ1.s.pers _ _ _ (ht 3 _ rfl)) ?_
          obtain ⟨R1, h2, back⟩ := ManyH.get' hQ1.s.p2 (by rw [hQ1.g, hQ1.l]) k (by rw [hQ1.l]; exact hk4)
          have hC := s_Take_int _ _ _ op.n h2
          refine rCall hC ?_; clear hC h2
          rintro r1 w1 ⟨kk, hkk1, hmm, h3⟩
          have h4 := (back _ _ _ _ _ _ h3.p2.p2).drew
          have d4 := (h4.p3.cell k).trans (ptrsOf_get R (by rw [hQ1.r]; exact hk4))
          refine rIAA hk0 (by omega) <| rLD (by rw [hkk]; exact d4) <| rFA <| rLD (h4.pers _ _ _ (ht 3 _ rfl)) ?_
          obtain ⟨R2, h6, back2⟩ := ManyH.get' h4.p4 (by rw [hQ1.r, hQ1.l]) k (by rw [hQ1.l]; exact hk4)
          have hC := r_Take _ op.n _ _ h6
          refine rCall hC ?_; clear hC h6 h4 h3
          rintro r2 w1 ⟨k2, hk2', hr2, h6⟩
          have h7 := back2 _ _ _ _ _ _ h6
          obtain rfl : k2 = kk := by omega
          obtain ⟨F', hF, hr1, h8, bk⟩ := h7.p2.lendSl (by simp; omega)
          have hC := m_SameInts _ _ _ _ h8 hr1 hr2.rd
          refine rCall hC ?_; clear hC h8 h7 h6
          rintro _ w1 ⟨rfl, h8⟩
          obtain ⟨-, h9⟩ := bk _ _ _ (Gr.refl _ _) h8
          have hC := m_OverInts _ _ h9 (by simp; omega)
          refine rCall hC ?_; clear hC h8 h9
          rintro _ w1 h9
          rw [decide_eq_true rfl]
          exact ⟨rfl, G, R, _, J1, Gr.refl _ _, hQ1.g, hQ1.r, by simp [hQ1.l], hQ1.m, h9.p1.p3.p3⟩
        · -- KHeads
          refine rFA <| rLoad (hQ1.s.pers _ _ _ (ht 2 _ rfl)) <| rLen ?_
          refine rLoop3 (fun x y z w' => ∃ j : Nat, z = .int .i64 j ∧ j ≤ op.items.length ∧ QP w J1 F t3 t4 G R L [OwnSl Ty.ptr 25 x ((op.items.take j).map fun n => gAt G (and3 n)), OwnSl Ty.ptr 58 y ((op.items.take j).map fun n => gAt R (and3 n)), OwnSl Ty.int T_int (.slice Am (op.items ++ [-77, -78]).length cm) (op.items ++ [-77, -78])] w')
            (fun _ _ z _ => match z with | .int _ k => op.items.length - k.toNat | _ => 0) ⟨0, rfl, Nat.zero_le _, hQ1.g, hQ1.r, hQ1.l, hQ1.m, by simpa using ((hQ1.s.ownNil Ty.ptr 58).ownNil Ty.ptr 25).p5.p5.p5.p5⟩ ?_
          clear hQ1
          rintro f6 w1 ag6 hag6 ⟨j, hj, hjn, hQ1⟩
          generalize f6 12 = x at hQ1 ⊢
          generalize f6 13 = y at hQ1 ⊢
          simp only [hj] at hag6 ⊢
          refine rLss (rCond (fun hlt => ?_) fun hge => ?_)
          · have hjl : j < op.items.length := by omega
            obtain ⟨b2, o2, us2, hA2, hu2, ⟨rfl, hr2⟩, -⟩ := hsl.rs.at (i := j) hjl
            rw [hA2]
            refine rIA (by omega) (by omega) <| rLoad (by simpa using hQ1.s.pers _ _ _ (hu2 0 (by simp))) ?_
            have hQ1 := hQ1.drew
            have hn4 := and3_lt op.items[j]
            have kc3 : ∀ {J F' As w'}, St w J F' (Cells t3 (ptrsOf G) 57 :: As) w' → w'.cell? ⟨t3, and3 op.items[j], none⟩ = some (.pointer (some ⟨gAt G (and3 op.items[j]), 0, none⟩)) := fun h => (h.cell _).trans (ptrsOf_get G (by rw [hQ1.g]; exact hn4))
            have kc4 : ∀ {J F' As w'}, St w J F' (Cells t4 (ptrsOf R) 59 :: As) w' → w'.cell? ⟨t4, and3 op.items[j], none⟩ = some (.pointer (some ⟨gAt R (and3 op.items[j]), 0, none⟩)) := fun h => (h.cell _).trans (ptrsOf_get R (by rw [hQ1.r]; exact hn4))
            have hkn : 0 + ((and3 op.items[j] : Nat) : Int).toNat * 1 = and3 op.items[j] := by omega
            refine ⟨fun w' => w'.cell? ⟨t3, and3 op.items[j], none⟩ = some (.pointer (some ⟨gAt G (and3 op.items[j]), 0, none⟩)) ∧ w'.cell? ⟨t4, and3 op.items[j], none⟩ = some (.pointer (some ⟨gAt R (and3 op.items[j]), 0, none⟩)), ⟨kc3 hQ1.s, kc4 hQ1.s.p1⟩, ?_⟩
            refine rD rfl <| rAnd3 <| rIAA (by omega) (by omega) <| rHL (fun w1 h1 => by rw [hkn]; exact h1.1) <| rD rfl <| rAnd3 <| rIAA (by omega) (by omega) <| rHL (fun w1 h1 => by rw [hkn]; exact h1.2) ?_
            have fin : ∀ x' y' w', St w J1 F (OwnSl Ty.ptr 58 y' (((op.items.take j).map fun n => gAt R (and3 n)) ++ [gAt R (and3 op.items[j])]) :: OwnSl Ty.ptr 25 x' (((op.items.take j).map fun n => gAt G (and3 n)) ++ [gAt G (and3 op.items[j])]) :: Cells t3 (ptrsOf G) 57 :: Cells t4 (ptrsOf R) 59 :: QsH G L :: ManyH RefH R L :: [OwnSl Ty.int T_int (.slice Am (op.items ++ [-77, -78]).length cm) (op.items ++ [-77, -78])]) w' → oBin Try.prog .add 3 (Operand.tmp 106) (Operand.const (.int .i64 1)) (.int .i64 j) (.int .i64 1) noP w' fun t124 w => ag6 [x', y', t124] w := by
              intro x' y' w' h
              refine rAdd (by omega) (by omega) (hag6 _ _ _ _ ⟨j + 1, by simp, by omega, hQ1.g, hQ1.r, hQ1.l, hQ1.m, ?_⟩ (by dsimp only; omega))
              rw [List.take_succ_eq_append_getElem hjl, List.map_append, List.map_append]
              exact h.p6.p1.p2.p6.p6.p6.p6
            have hs := hQ1.s.p4.p5.p1
            have pq : ∀ {J F' x l As w' K} {g : Nat}, l.length ≤ 1048576 → St w J F' (Cells g [.pointer (some ⟨gAt G (and3 op.items[j]), 0, none⟩)] 25 :: OwnSl Ty.ptr 25 x l :: As) w' → (∀ x' w', St w J F' (OwnSl Ty.ptr 25 x' (l ++ [gAt G (and3 op.items[j])]) :: As) w' → K x' w') → oBI Try.prog .append #[64, 64] 64 [false, false] [x, .slice (some ⟨g, 0, none⟩) 1 1] noP w' K :=
              fun hl h hk => rApp1 (T := Ty.ptr) (x := gAt G (and3 op.items[j])) h rfl rfl (by rfl) (by decide) (by omega) (by decide) hk
            have pr : ∀ {J F' x l As w' K} {g : Nat}, l.length ≤ 1048576 → St w J F' (Cells g [.pointer (some ⟨gAt R (and3 op.items[j]), 0, none⟩)] 58 :: OwnSl Ty.ptr 58 x l :: As) w' → (∀ x' w', St w J F' (OwnSl Ty.ptr 58 x' (l ++ [gAt R (and3 op.items[j])]) :: As) w' → K x' w') → oBI Try.prog .append #[65, 65] 65 [false, false] [x, .slice (some ⟨g, 0, none⟩) 1 1] noP w' K :=
              fun hl h hk => rApp1 (T := Ty.ptr) (x := gAt R (and3 op.items[j])) h rfl rfl (by rfl) (by decide) (by omega) (by decide) hk
            have hl1 : ((op.items.take j).map fun n => gAt G (and3 n)).length ≤ 1048576 := by simp; omega
            have hl2 : ((op.items.take j).map fun n => gAt R (and3 n)).length ≤ 1048576 := by simp; omega
            refine ⟨?_, ?_⟩
            · refine rBuildSS hs [.pointer (some ⟨gAt G (and3 op.items[j]), 0, none⟩)] (by decide) (by kernel_rfl) ?_
              intro q w1 h
              refine ⟨⟨kc3 h.p3, kc4 h.p4⟩, ?_, ?_⟩
              · refine pq hl1 h ?_
                intro x' w1 h
                refine ⟨⟨kc3 h.p2, kc4 h.p3⟩, rBuildSS h [.pointer (some ⟨gAt R (and3 op.items[j]), 0, none⟩)] (by decide) (by kernel_rfl) ?_⟩
                intro r w1 h
                refine ⟨⟨kc3 h.p3, kc4 h.p4⟩, pr hl2 h.p2.p1 ?_⟩
                intro y' w1 h
                exact fin _ _ _ h
              · refine rBuildSS h [.pointer (some ⟨gAt R (and3 op.items[j]), 0, none⟩)] (by decide) (by kernel_rfl) ?_
                intro r w1 h
                refine ⟨⟨kc3 h.p4, kc4 h.p5⟩, pq hl1 h.p2.p2 ?_⟩
                intro x' w1 h
                refine ⟨⟨kc3 h.p3, kc4 h.p4⟩, pr hl2 h.p2.p2 ?_⟩
                intro y' w1 h
                exact fin _ _ _ h
            · refine rBuildSS hs [.pointer (some ⟨gAt R (and3 op.items[j]), 0, none⟩)] (by decide) (by kernel_rfl) ?_
              intro r w1 h
              refine ⟨⟨kc3 h.p3, kc4 h.p4⟩, rBuildSS h [.pointer (some ⟨gAt G (and3 op.items[j]), 0, none⟩)] (by decide) (by kernel_rfl) ?_⟩
              intro q w1 h
              refine ⟨⟨kc3 h.p4, kc4 h.p5⟩, pq hl1 h.p2.p1 ?_⟩
              intro x' w1 h
              refine ⟨⟨kc3 h.p3, kc4 h.p4⟩, pr hl2 h.p2.p2 ?_⟩
              intro y' w1 h
              exact fin _ _ _ h
          · have hjj : j = op.items.length := by omega
            subst hjj
            rw [List.take_length] at hQ1
            obtain ⟨J2, hJ2, hx, hs⟩ := hQ1.s.p4.lastSl (by simp; omega)
            obtain ⟨J3, hJ3, hy, hs⟩ := hs.p4.lastSl (by simp; omega)
            have hx := (hx.mono hJ3.le).rd (F := F)
            have hy := hy.rd (F := F)
            have hxe : (op.items.map fun n => gAt G (and3 n)) = (op.items.map and3).map fun k => gAt G k := by simp
            have hye : (op.items.map fun n => gAt R (and3 n)) = (op.items.map and3).map fun k => gAt R k := by simp
            rw [hxe] at hx
            rw [hye] at hy
            have hidx : ∀ k ∈ op.items.map and3, k < L.length := fun k hk => by
              obtain ⟨n, _, rfl⟩ := List.mem_map.1 hk
              rw [hQ1.l]; exact and3_lt n
            have hn : (op.items.map and3).length ≤ 1048576 := by simpa using hbi
            have hout := takeHeads_out (op.items.map and3) L
            simp only [List.length_map] at hout
            have hC := s_Heads G L _ x hs.p2 (by rw [hQ1.g, hQ1.l]) hidx hx hn
            refine rCall hC ?_; clear hC hs
            rintro r w1 (⟨hen, v', rfl, hs⟩ | ⟨hen, rfl, hs⟩)
            · refine rEX0 <| rEX1 ?_
              have hC := r_Heads R L _ y hs.p4 (by rw [hQ1.r, hQ1.l]) hidx hy hn
              refine rCall hC ?_; clear hC hs
              rintro r w1 (⟨_, v2', rfl, hs⟩ | ⟨hen2, _⟩)
              · refine rEX0 <| rEX1 ?_
                obtain ⟨J4, hJ4, ho2, hs⟩ := hs.lastSl (by omega)
                obtain ⟨J5, hJ5, ho1, hs⟩ := hs.p1.lastSl (by omega)
                have hC := m_SameInts _ _ _ _ hs ho1.rd (ho2.mono hJ5.le).rd
                refine rCall hC ?_; clear hC hs
                rintro _ w1 ⟨rfl, hs⟩
                rw [decide_eq_true rfl]
                refine rG1 <| rG1 <| rG1 <| rEqlB <| rPickT ⟨rfl, G, R, _, J5, ((hJ2.trans hJ3).trans hJ4).trans hJ5, hQ1.g, hQ1.r, by rw [takeHeads_len, hQ1.l], hQ1.m, hs.p1.p3.p3⟩
              · rw [hen] at hen2; cases hen2
            · refine rEX0 <| rEX1 ?_
              have hC := r_Heads R L _ y hs.p3 (by rw [hQ1.r, hQ1.l]) hidx hy hn
              refine rCall hC ?_; clear hC hs
              rintro r w1 (⟨hen2, _⟩ | ⟨_, rfl, hs⟩)
              · rw [hen] at hen2; cases hen2
              · refine rEX0 <| rEX1 ?_
                have hC := m_SameInts _ _ [] [] hs RS.nil RS.nil
                refine rCall hC ?_; clear hC hs
                rintro _ w1 ⟨rfl, hs⟩
                rw [decide_eq_true rfl]
                refine rG1 <| rG1 <| rG1 <| rEqlB <| rPickT ⟨rfl, G, R, L, J3, hJ2.trans hJ3, hQ1.g, hQ1.r, hQ1.l, hQ1.m, hs.p1.p3.p3⟩
        · exact ⟨rfl, G, R, L, J1, Gr.refl _ _, hQ1⟩
      · obtain ⟨h10, G, R, L, J2, hJ2, hQ⟩ := h8
        simp only [List.map_cons, List.map_nil, List.getD_cons_zero] at h10
        rw [h10]
        refine rNot <| rG1 <| rG1 <| rFA <| rG1 <| rLoad (hQ.s.pers _ _ _ (hJ2.le _ _ _ (ht 2 _ rfl))) <| rG1 ?_
        obtain ⟨F', hF, hr, hs, bk⟩ := hQ.s.p4.lendSl (by simp; omega)
        have hC := m_KeptInts Am cm _ op.items op.items hs hr (hsl.mono hJ2.le).rd hbi
        refine rCall hC ?_; clear hC hs
        rintro _ w1 ⟨rfl, hs⟩
        obtain ⟨-, hs⟩ := bk _ _ _ (Gr.refl _ _) hs
        rw [decide_eq_true rfl]
        refine rG1 <| rNot <| rPickF <| rFalse ?_
        have h3 := hs.slTake op.items.length (by simp)
        rw [List.take_left] at h3
        have hC := m_OverInts _ _ h3 hbi
        refine rCall hC ?_; clear hC hs h3
        rintro _ w1 hs
        refine rLoop1 (fun x w' => ∃ (k : Nat) (J : CM), x = .int .i64 k ∧ k ≤ 4 ∧ Gr F J2 J ∧ St w J F [Cells t3 (ptrsOf G) 57, Cells t4 (ptrsOf R) 59, QsH G L, ManyH RefH R L] w') (fun x _ => match x with | .int _ k => 4 - k.toNat | _ => 0)
          ⟨0, J2, rfl, by omega, Gr.refl _ _, hs⟩ ?_
        clear hs
        rintro f8 w1 ag8 hag8 ⟨k, J, hk, hk4, hJ3, hs⟩
        simp only [hk] at hag8 ⊢
        refine rLss (rCond (fun hlt => ?_) fun hge => ?_)
        · have hk4 : k < 4 := by omega
          have hkk : 0 + (k : Int).toNat * 1 = k := by omega
          have hs := hs.drew
          have c3 := (hs.cell k).trans (ptrsOf_get G (by rw [hQ.g]; exact hk4))
          have c4 := (hs.p1.cell k).trans (ptrsOf_get R (by rw [hQ.r]; exact hk4))
          refine rIAA (by omega) (by omega) <| rLD (by rw [hkk]; exact c3) <| rIAA (by omega) (by omega) <| rLD (by rw [hkk]; exact c4) ?_
          obtain ⟨R1, h2, back⟩ := ManyH.get' hs.p2 (by rw [hQ.g, hQ.l]) k (by rw [hQ.l]; exact hk4)
          obtain ⟨R2, h3, back2⟩ := ManyH.get' h2.p4 (by rw [hQ.r, hQ.l]) k (by rw [hQ.l]; exact hk4)
          have h4 := h3.p2
          rw [← hQ.m k hk4] at h4 back2
          have hC := s_same _ _ _ _ h4
          refine rCall hC ?_; clear hC h4 h3 h2
          rintro _ w1 ⟨J4, rfl, hJ4, h4⟩
          have h5 := back2 _ _ _ _ _ _ h4.p2.p2
          have h6 := back _ _ _ _ _ _ h5.p2.p2
          have e : L.set k (lAt L k) = L := by rw [lAt_el L (by rw [hQ.l]; exact hk4)]; simp
          rw [e] at h6
          exact rNot <| rFalse <| rAdd (by omega) (by omega) (hag8 _ _ ⟨k + 1, J4, by simp, by omega, hJ3.trans hJ4, h6.p3.p3⟩ (by dsimp only; omega))
        · exact rAdd (by omega) (by omega) (hag2 _ _ ⟨i + 1, G, R, L, J, by simp, by omega, hJ'.trans (hJ2.trans hJ3), hQ.g, hQ.r, hQ.l, hQ.m, hs⟩ (by dsimp only; omega))
    · exact ⟨by trivial, hbase hQ.s⟩
end Go.Proofs.Ytahipnlffgbjgaa
