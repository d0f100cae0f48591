/- QueueTypes. -/
import Derived.Test.YtahipnlffgbjgaaS1
namespace Go.Proofs.Ytahipnlffgbjgaa
open Go L
set_option linter.unusedVariables false

def nameL (n : Int) (k : Nat) : List UInt8 := (List.range k).map fun i => UInt8.ofNat ((n % 18446744073709551616).toNat / 2 ^ (8 * i) % 256)
def nameF (n : Int) : ByteArray := ⟨(nameL n 8).toArray⟩
theorem nameF_size (n : Int) : (nameF n).size = 8 := rfl

theorem fdiv_nat (a b : Nat) : (a : Int).fdiv (b : Int) = ((a / b : Nat) : Int) := by
  rw [Int.fdiv_eq_ediv_of_nonneg _ (by omega)]; simp

section
variable {c : World} {I : CM} {F : Hp} {As : List HP} {w : World}

theorem s_name (n : Int) (hn : -9223372036854775808 ≤ n ∧ n ≤ 9223372036854775807) (hs : St c I F As w) :
    Calls Try.prog i_trommellaw21_name #[.int .i64 n] w (callR (fun r w' => r = .string (nameF n) ∧ St c I F As w') noP) := by
  refine c_trommellaw21_name ?_
  unfold n_trommellaw21_name
  refine rLoop2 (fun x y w' => ∃ k : Nat, y = .int .i64 k ∧ k ≤ 8 ∧ St c I F (OwnSl Ty.byte T_uint8 x (nameL n k) :: As) w') (fun _ y _ => match y with | .int _ k => 8 - k.toNat | _ => 0) ⟨0, rfl, by omega, hs.ownNil _ _⟩ ?_
  rintro f w ag hag ⟨k, hk, hk8, hs⟩
  generalize f 3 = x at hs ⊢
  simp only [hk] at hag ⊢
  refine rLss (rCond (fun hlt => ?_) fun hge => ?_)
  · refine rCVI (k := .i64) (k' := .u64) (rMul (by omega) (by omega) (rShr (by omega) (by simp [IntKind.bits]; omega) (rCVI (k := .u64) (k' := .u8) (rBuildSS hs [.int .u8 (IntKind.u8.wrap ((IntKind.u64.wrap n).fdiv (2 ^ (8 * (k : Int)).toNat)))] (by decide) (by kernel_rfl) ?_))))
    intro g w hs
    have e : IntKind.u8.wrap ((IntKind.u64.wrap n).fdiv (2 ^ (8 * (k : Int)).toNat)) = ((UInt8.ofNat ((n % 18446744073709551616).toNat / 2 ^ (8 * k) % 256)).toNat : Int) := by
      have h1 : IntKind.u64.wrap n = ((n % 18446744073709551616).toNat : Int) := by
        simp [IntKind.wrap, IntKind.bits, IntKind.signed]; omega
      rw [h1]
      have h2 : (8 * (k : Int)).toNat = 8 * k := by omega
      rw [h2]
      have h3 : ((2 : Int) ^ (8 * k)) = ((2 ^ (8 * k) : Nat) : Int) := by simp
      rw [h3, fdiv_nat]
      generalize (n % 18446744073709551616).toNat / 2 ^ (8 * k) = m
      simp [IntKind.wrap, IntKind.bits, IntKind.signed]
    rw [e] at hs
    refine rApp1 (x := UInt8.ofNat ((n % 18446744073709551616).toNat / 2 ^ (8 * k) % 256)) hs rfl rfl (by rfl) (by decide) (by simp [nameL]; omega) (by decide) ?_
    intro v w hs
    refine rAdd (by omega) (by omega) (hag _ _ _ ⟨k + 1, by simp, by omega, ?_⟩ (by dsimp only; omega))
    have : nameL n (k + 1) = nameL n k ++ [UInt8.ofNat ((n % 18446744073709551616).toNat / 2 ^ (8 * k) % 256)] := by simp [nameL, List.range_succ]
    rw [this]; exact hs
  · have : k = 8 := by omega
    subst this
    refine rCVB (hs.slRead (by simp [nameL])) ?_
    exact ⟨rfl, hs.drop⟩
end

def itemF (n : Int) : D_trommellaw21_item := ⟨nameF n, n⟩
theorem nameF_le (n : Int) : (nameF n).size ≤ 140737488355328 := by rw [nameF_size]; decide

def QT (c : World) (I : CM) (F : Hp) (g1 g2 g3 : Nat) (most : Int) (ql : List Int) (w : World) : Prop := (∀ x ∈ ql, -9223372036854775808 ≤ x ∧ x ≤ 9223372036854775807) ∧
  St c I F [QueueH Ty_trommellaw21_item T_queue_Queue_trommellaw21_item T_trommellaw21_item g3 most (ql.map itemF), QueueH Ty.str T_queue_Queue_string T_string g2 most (ql.map nameF), QueueH Ty.int T_queue_Queue_int T_int g1 most ql] w

set_option maxHeartbeats 4000000 in
theorem law_QueueTypes (room : Int) (p1 : Value) (script : List D_trommellaw21_Op) (w : World) (h0 : -9223372036854775808 ≤ room ∧ room ≤ 9223372036854775807)
    (h1 : RSl Ty_trommellaw21_Op (hide w []) p1 script) (hb : bulkL bulk_trommellaw21_Op script + 1 ≤ 1048576) :
    Calls Try.prog i_trommellaw21_QueueTypes #[.int .i64 room, p1] w (callR (fun r w' => r = .bool true ∧ Mod [] w w') noP) := by
  obtain ⟨F, hs, hbase⟩ := St.init w
  generalize hide w [] = I at h1 hs
  obtain ⟨A, cp, rfl, hcp, hcp', hlen⟩ := h1.rs.parts
  refine c_trommellaw21_QueueTypes ?_
  unfold n_trommellaw21_QueueTypes
  have hC := s_fixed hs
  refine rCall hC ?_; clear hC
  rintro _ w1 ⟨rfl, J, hJ, hs⟩
  refine rNot (rFalse ?_)
  have hC := s_New_int hs room
  refine rCall hC ?_; clear hC
  rintro _ w1 ⟨g1, rfl, hs⟩
  have hC := s_New_string hs room
  refine rCall hC ?_; clear hC
  rintro _ w1 ⟨g2, rfl, hs⟩
  have hC := s_New_trommellaw21_item hs room
  refine rCall hC ?_; clear hC
  rintro _ w1 ⟨g3, rfl, hs⟩
  generalize min (max room 1) 16 = most at hs
  refine rEqlPN <| rG1 <| rG1 <| rEqlPN <| rPickF <| rG1 <| rG1 <| rEqlPN <| rPickF <| rFalse <| rLen ?_
  refine rLoop1 (fun x w' => ∃ (i : Nat) (ql : List Int) (J : CM), x = .int .i64 i ∧ i ≤ script.length ∧ Gr F I J ∧ QT w J F g1 g2 g3 most ql w') (fun x _ => match x with | .int _ k => script.length - k.toNat | _ => 0)
    ⟨0, [], J, rfl, Nat.zero_le _, hJ, by simp, hs⟩ ?_
  rintro f w1 ag hag ⟨i, ql, J, hi, hin, hJ, hq, hs⟩
  simp only [hi] at hag ⊢
  refine rLss (rCond (fun hlt => ?_) fun hge => ?_)
  · obtain ⟨b, o, us, rfl, hu, ⟨v2, rfl, hk1, hk2, hsl, hk3⟩, -⟩ := h1.rs.at (i := i) (by omega)
    have hbi : script[i].items.length ≤ 1048576 := by
      have h1 := bulkL_get bulk_trommellaw21_Op script i (by omega)
      have h2 := bulkL_len (fun _ : Int => 1) (fun _ => Nat.le_refl _) script[i].items
      simp only [bulk_trommellaw21_Op] at h1; omega
    generalize script[i] = op at *
    have hcell := fun j hj => hs.pers _ _ _ (hJ.le _ _ _ (hu j hj))
    obtain ⟨A2, c2, rfl, hcc2, _, hl2⟩ := hsl.rs.parts
    refine rIA (by omega) (by omega) (rLoadN [.int .i64 op.kind, .int .i64 op.which, .slice A2 op.items.length c2, .int .i64 op.n] rfl (by simpa using hcell) ?_)
    refine rAllocS hs [.int .i64 0, .int .i64 0, .slice none 0 0, .int .i64 0] rfl ?_
    intro t w1 hs
    refine rStNS hs rfl (by simp) (by simp; exact ⟨rfl, rfl, rfl, rfl⟩) ?_
    intro w1 hs
    obtain ⟨J1, hJ1, ht, hs⟩ := hs.lastCells
    simp at ht
    have hJ' := hJ.trans hJ1
    refine ⟨fun l w' => ∃ ql' J', Gr F I J' ∧ QT w J' F g1 g2 g3 most ql' w', ?_, fun f2 w8 h8 => ?_⟩
    · refine rFA (rLoad (hs.pers _ _ _ (ht 0 _ rfl)) (rEql (rCond (fun hput => ?_) fun htake => ?_)))
      · refine rFA (rLoad (hs.pers _ _ _ (ht 2 _ rfl)) (rLen ?_))
        have hitems := (hsl.mono hJ'.le)
        refine rLoop3 (fun x y z w' => ∃ k : Nat, z = .int .i64 k ∧ k ≤ op.items.length ∧ St w J1 F (OwnSl Ty_trommellaw21_item T_trommellaw21_item y ((op.items.take k).map itemF) :: OwnSl Ty.str T_string x ((op.items.take k).map nameF) ::
            [QueueH Ty_trommellaw21_item T_queue_Queue_trommellaw21_item T_trommellaw21_item g3 most (ql.map itemF), QueueH Ty.str T_queue_Queue_string T_string g2 most (ql.map nameF), QueueH Ty.int T_queue_Queue_int T_int g1 most ql]) w')
          (fun _ _ z _ => match z with | .int _ k => op.items.length - k.toNat | _ => 0) ⟨0, rfl, Nat.zero_le _, (hs.ownNil _ _).ownNil _ _⟩ ?_
        rintro f3 w1 ag3 hag3 ⟨k, hk, hkn, hs⟩
        generalize f3 10 = x at hs ⊢
        generalize f3 11 = y at hs ⊢
        simp only [hk] at hag3 ⊢
        refine rLss (rCond (fun hlt => ?_) fun hge => ?_)
        · obtain ⟨b2, o2, us2, hA2, hu2, ⟨rfl, hr2⟩, -⟩ := hitems.rs.at (i := k) (by omega)
          rw [hA2]
          have hcell2 := hs.pers _ _ _ (hu2 0 (by simp))
          refine rIA (by omega) (by omega) (rLoad (by simpa using hcell2) ?_)
          have hC := s_name (op.items[k]) hr2 hs
          refine rCall hC ?_; clear hC
          rintro _ w1 ⟨rfl, hs⟩
          refine rBuildSS hs [.string (nameF op.items[k])] (by decide) (by kernel_rfl) ?_
          intro q w1 hs
          refine rApp1 (x := nameF op.items[k]) hs.p2.p1 ⟨rfl, nameF_le _⟩ rfl (by rfl) (by decide) (by simp; omega) (by decide) ?_
          intro x' w1 hs
          have hC := s_name (op.items[k]) hr2 hs
          refine rCall hC ?_; clear hC
          rintro _ w1 ⟨rfl, hs⟩
          refine rBuild [.string (nameF op.items[k]), .int .i64 op.items[k]] rfl ?_
          refine rBuildSS hs [.string (nameF op.items[k]), .int .i64 op.items[k]] (by decide) (by kernel_rfl) ?_
          intro q2 w1 hs
          refine rApp1 (x := itemF op.items[k]) hs.p2.p1 ⟨rfl, nameF_le _, hr2⟩ rfl (by rfl) (by decide) (by simp; omega) (by decide) ?_
          intro y' w1 hs
          refine rAdd (by omega) (by omega) (hag3 _ _ _ _ ⟨k + 1, by simp, by omega, ?_⟩ (by dsimp only; omega))
          rw [List.take_succ_eq_append_getElem (by omega), List.map_append, List.map_append]
          exact hs
        · have hkk : k = op.items.length := by omega
          subst hkk
          rw [List.take_length] at hs
          refine rFA (rLoad (hs.pers _ _ _ (ht 2 _ rfl)) ?_)
          have hC := s_Put_int g1 _ most ql op.items hs.p4 hitems.rd
          refine rCall hC ?_; clear hC
          rintro _ w1 ⟨k1, rfl, hk1', hmost, hs⟩
          obtain ⟨J2, hJ2, hx, hs⟩ := hs.p2.lastSl (by simp; omega)
          have hC := s_Put_string g2 _ most _ _ hs.p3 hx.rd
          refine rCall hC ?_; clear hC
          rintro _ w1 ⟨k2, rfl, hk2', _, hs⟩
          simp only [List.length_map] at hk2'
          refine rNeqF (by omega) (rG1 (rG1 (rG1 ?_)))
          obtain ⟨J3, hJ3, hy, hs⟩ := hs.p2.lastSl (by simp; omega)
          have hC := s_Put_trommellaw21_item g3 _ most _ _ hs.p2 hy.rd
          refine rCall hC ?_; clear hC
          rintro _ w1 ⟨k3, rfl, hk3', _, hs⟩
          simp only [List.length_map] at hk3'
          refine rG1 (rG1 (rNeqF (by omega) (rPickF (rFalse ?_))))
          obtain rfl : k2 = k1 := by omega
          obtain rfl : k3 = k2 := by omega
          refine ⟨ql ++ op.items.take k3, J3, hJ'.trans (hJ2.trans hJ3), ?_, ?_⟩
          · intro x hx
            rcases List.mem_append.1 hx with h | h
            · exact hq x h
            · obtain ⟨j, hj, rfl⟩ := List.getElem_of_mem (List.mem_of_mem_take h)
              obtain ⟨_, _, us, _, _, hr, _⟩ := hsl.rs.at (i := j) hj
              exact hr.2
          · rw [List.map_append, List.map_append, List.map_take, List.map_take]
            exact hs
      · refine ⟨Pers J1, hs.persI (CM.le.refl _), rFA (rHLP (ht 3 _ rfl) ?_)⟩
        have hs := hs.drew
        have hC := s_Take_int g1 most ql op.n hs.p2
        refine rCall hC ?_; clear hC
        rintro r1 w1 ⟨k, hk, hmost, hs⟩
        refine ⟨hs.persI (CM.le.refl _), rFA (rHLP (ht 3 _ rfl) ?_)⟩
        have hC := s_Take_string g2 most _ op.n hs.p3
        refine rCall hC ?_; clear hC
        rintro r2 w1 ⟨k2, hk2, -, hs⟩
        refine ⟨hs.persI (CM.le.refl _), rFA (rHLP (ht 3 _ rfl) ?_)⟩
        have hC := s_Take_trommellaw21_item g3 most _ op.n hs.p4
        refine rCall hC ?_; clear hC
        rintro r3 w1 ⟨k3, hk3, -, hs⟩
        simp only [List.length_map] at hk2 hk3
        obtain rfl : k2 = k := by omega
        obtain rfl : k3 = k2 := by omega
        refine ⟨hs.persI (CM.le.refl _), ?_⟩
        have hkl : k3 ≤ ql.length := by omega
        obtain ⟨J2, hJ2, hr3, hs⟩ := hs.lastSl (by simp; omega)
        obtain ⟨J3, hJ3, hr2, hs⟩ := hs.p1.lastSl (by simp; omega)
        obtain ⟨J4, hJ4, hr1, hs⟩ := hs.p2.lastSl (by simp; omega)
        have hr2 := hr2.mono hJ4.le
        have hr3 := hr3.mono (hJ3.trans hJ4).le
        have hJ4 := hJ'.trans (hJ2.trans (hJ3.trans hJ4))
        obtain ⟨A3, c3, he3, h31, h32, h33⟩ := hr1.rs.parts
        rw [he3] at hr1 ⊢
        obtain ⟨A4, c4, he4, h41, h42, h43⟩ := hr2.rs.parts
        rw [he4] at hr2 ⊢
        obtain ⟨A5, c5, he5, h51, h52, h53⟩ := hr3.rs.parts
        rw [he5] at hr3 ⊢
        have e4 : ((ql.map nameF).take k3).length = (ql.take k3).length := by simp
        have e5 : ((ql.map itemF).take k3).length = (ql.take k3).length := by simp
        refine rLen <| rLen <| rNeqF (by omega) <| rG1 <| rG1 <| rLen <| rG1 <| rG1 <| rLen <| rG1 <| rNeqF (by omega) <| rPickF <| rFalse <| rLen ?_
        refine rLoop1 (fun x w' => ∃ (j : Nat), x = .int .i64 j ∧ j ≤ (ql.take k3).length ∧ QT w J4 F g1 g2 g3 most (ql.drop k3) w') (fun x _ => match x with | .int _ k => (ql.take k3).length - k.toNat | _ => 0)
          ⟨0, rfl, Nat.zero_le _, fun x hx => hq x (List.mem_of_mem_drop hx), ?_⟩ ?_
        · rw [List.map_drop, List.map_drop]; exact hs
        · rintro f5 w1 ag5 hag5 ⟨j, hj, hjn, hq, hs⟩
          simp only [hj] at hag5 ⊢
          refine rLss (rCond (fun hlt => ?_) fun hge => ?_)
          · have hjl : j < (ql.take k3).length := by omega
            obtain ⟨b3, o3, us3, hA3, hu3, ⟨rfl, hn3⟩, -⟩ := hr1.rs.at (i := j) hjl
            obtain ⟨b4, o4, us4, hA4, hu4, ⟨rfl, hn4⟩, -⟩ := hr2.rs.at (i := j) (by omega)
            obtain ⟨b5, o5, us5, hA5, hu5, ⟨rfl, hn5⟩, -⟩ := hr3.rs.at (i := j) (by omega)
            rw [hA3, hA4, hA5]
            have e1 : ((ql.map nameF).take k3)[j]'(by omega) = nameF (ql.take k3)[j] := by simp
            have e2 : ((ql.map itemF).take k3)[j]'(by omega) = itemF (ql.take k3)[j] := by simp
            rw [e1] at hu4
            rw [e2] at hu5
            generalize (ql.take k3)[j] = n at *
            refine rIA (by omega) (by omega) (rLoad (by simpa using hs.pers _ _ _ (hu3 0 (by simp))) ?_)
            have hs := hs.drew
            refine ⟨Pers J4, hs.persI (CM.le.refl _), rIA (by omega) (by omega) (rHLP (by simpa using hu4 0 (by simp)) ?_)⟩
            have hC := s_name n hn3 hs
            refine rCall hC ?_; clear hC
            rintro _ w1 ⟨rfl, hs⟩
            refine ⟨hs.persI (CM.le.refl _), rD rfl (rNeqS ?_)⟩
            rw [decide_eq_false (by simp)]
            refine rG1 <| rG1 <| rG1 <| rIA (by omega) (by omega) <| rG1 <| rHLNP [.string (nameF n), .int .i64 n] rfl (by simpa [itemF] using hu5) <| rG1 <| rG1 ?_
            have hC := s_name n hn3 hs
            refine rCall hC ?_; clear hC
            rintro _ w1 ⟨rfl, hs⟩
            refine ⟨hs.persI (CM.le.refl _), rG1 <| rG1 <| rBuild [.string (nameF n), .int .i64 n] rfl <| rG1 <| rD rfl <| rNeqA (xs := [.string (nameF n), .int .i64 n]) (ys := [.string (nameF n), .int .i64 n]) rfl rfl ?_⟩
            have e : cellsEq [.string (nameF n), .int .i64 n] [.string (nameF n), .int .i64 n] = true := by simp [cellsEq, cellEq]
            rw [e]
            exact rPickF <| rFalse <| rAdd (by omega) (by omega) (hag5 _ _ ⟨j + 1, by simp, by omega, hq, hs⟩ (by dsimp only; omega))
          · exact ⟨_, _, hJ4, hq, hs⟩
    · obtain ⟨ql', J', hJ', hq, hs⟩ := h8
      have hs := hs.drew
      refine rD rfl (rNil (rFA ?_))
      have hC := q_Len _ _ _ g2 _ _ hs.p1
      refine rCall hC ?_; clear hC
      rintro _ w1 ⟨rfl, hm, hs⟩
      refine rD rfl (rNil (rFA ?_))
      have hC := q_Len _ _ _ g1 _ _ hs.p2
      refine rCall hC ?_; clear hC
      rintro _ w1 ⟨rfl, -, hs⟩
      refine rD rfl (rNeqF (by simp) (rG1 <| rG1 <| rD rfl <| rNil <| rG1 <| rFA <| rG1 ?_))
      have hC := q_Room _ _ _ g3 _ _ hs.p2
      refine rCall hC ?_; clear hC
      rintro _ w1 ⟨rfl, -, hs⟩
      refine rG1 <| rG1 <| rD rfl <| rNil <| rG1 <| rFA <| rG1 ?_
      have hC := q_Room _ _ _ g1 _ _ hs.p1
      refine rCall hC ?_; clear hC
      rintro _ w1 ⟨rfl, -, hs⟩
      refine rG1 <| rD rfl <| rNeqF (by simp) <| rPickF <| rFalse <| rAdd (by omega) (by omega) (hag _ _ ⟨i + 1, ql', J', by simp, by omega, hJ', hq, ?_⟩ (by dsimp only; omega))
      exact hs.p2.p2
  · exact ⟨by trivial, hbase hs⟩
end Go.Proofs.Ytahipnlffgbjgaa
