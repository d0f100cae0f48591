/- Lib 3: a region that draws its order comes to the order of its text. -/
import Derived.Test.YtlbihkgfejgefaaDoorL2
namespace Go.Proofs.YtlbihkgfejgefaaDoor.L
open Go
section wf
variable {P : Program}
/-! ### an operation of the class 0 -/
theorem fin_ok {K : VK} {v : Value} {w : World} : fin P K noP (.ok (.value v) w) = K v w := rfl
theorem fin_halt {K : VK} {h : Halt} {w : World} : fin P K noP (.halt h w) = False := by cases h <;> rfl

/-- what an operation does to the continuation: the same value in whatever world, or nothing good -/
def Still0 (P : Program) (e : Operand → Value) (o : Oper) : Prop :=
  (∃ v, ∀ w K, oneOp' P noP true e o w K ↔ K v w) ∨ (∀ w K, ¬ oneOp' P noP true e o w K)

theorem still_of {e : Operand → Value} {o : Oper} {s : Sem Value} (hf : ∀ w K, oneOp' P noP true e o w K ↔ fin P K noP ((do pure (Next.value (← s)) : Sem Next).run P w)) (h : WF P s) : Still0 P e o := by
  rcases h with ⟨v, hv⟩ | hb
  · refine .inl ⟨v, fun w K => ?_⟩
    rw [hf, Sem.run_bind, hv w]; rfl
  · refine .inr fun w K => ?_
    obtain ⟨h, w', e⟩ := hb w
    rw [hf, Sem.run_bind, e, Result.andThen_halt, fin_halt]; exact id

theorem Still0.bad {e : Operand → Value} {o : Oper} (hf : ∀ w K, ¬ oneOp' P noP true e o w K) : Still0 P e o := .inr hf

theorem oD_iff {b : Bool} {X : Prop} : oD b X ↔ (b = true ∧ X) := by cases b <;> simp [oD]

theorem still0 (e : Operand → Value) (o : Oper) (h : cls o = 0) : Still0 P e o := by
  have hgo : ∀ w K, oneOp' P noP true e o w K ↔ (condOk P e o = true ∧ fin P K noP ((execOp e o).run P w)) := by
    intro w K
    obtain ⟨dst, op, ty, pos, after, guard⟩ := o
    cases op <;> simp only [cls] at h <;> (try (cases h; done)) <;> simp only [oneOp', oD_iff]
  cases hc : condOk P e o with
  | false => exact .bad fun w K hh => by rw [hgo, hc] at hh; exact Bool.noConfusion hh.1
  | true =>
  have hgo' : ∀ w K, oneOp' P noP true e o w K ↔ fin P K noP ((execOp e o).run P w) := fun w K => by rw [hgo, hc]; simp
  clear hgo
  obtain ⟨dst, op, ty, pos, after, guard⟩ := o
  cases op <;> simp only [cls] at h <;> (try (cases h; done)) 
  case move x => exact .inl ⟨e x, fun w K => hgo' w K⟩
  case assign x => exact .inl ⟨e x, fun w K => hgo' w K⟩
  case pick c a b =>
    have hw : WF P (asBool (e c)) := .asBool _
    rcases hw with ⟨v, hv⟩ | hb
    · refine .inl ⟨if v = true then e a else e b, fun w K => ?_⟩
      rw [hgo']
      simp only [execOp, Sem.run_bind, hv w, Result.andThen_ok]
      exact Iff.rfl
    · refine .inr fun w K => ?_
      obtain ⟨h, w', e'⟩ := hb w
      rw [hgo']
      simp only [execOp, Sem.run_bind, e', Result.andThen_halt, fin_halt]
      exact id
  case fieldAddr s x f =>
      have hf : fieldSized P s f = true := hc
      refine still_of (s := Instr.fieldAt s (e x) f) (fun w K => hgo' w K) ?_
      unfold fieldSized at hf
      unfold Instr.fieldAt Go.fieldPlace
      have hu : ∀ w, (Go.underlying s).run P w = match P.underlying s with | some d => .ok d w | none => .halt (.stuck "no such type") w := by
        intro w; unfold Go.underlying; simp only [Sem.run_bind, run_program, Result.andThen_ok]; split <;> rename_i hh <;> simp only [hh] <;> rfl
      split at hf <;> (try (cases hf; done))
      rename_i fs hfs
      split at hf <;> (try (cases hf; done))
      rename_i fl hfl
      split at hf <;> (try (cases hf; done))
      rename_i i hi
      have hs0 : ∀ w, (Go.sizeOf fl.type).run P w = .ok i.size w := by
        intro w; unfold Go.sizeOf Go.typeInfo; simp only [Sem.run_bind, run_program, Result.andThen_ok, hi]; rfl
      have hne : i.size ≠ 0 := fun h0 => by rw [h0] at hf; simp at hf
      have ha : WF P (Instr.sureAddr (e x)) := .sureAddr _
      rcases ha with ⟨v, hv⟩ | hb
      · refine .inl ⟨.pointer (some (v.add fl.offset)), fun w => ?_⟩
        simp only [Sem.run_bind, hu, hfs, Result.andThen_ok, hfl, hv, hs0, if_neg hne]
        rfl
      · refine .inr fun w => ?_
        obtain ⟨h, w', e'⟩ := hb w
        refine ⟨h, w', ?_⟩
        simp only [Sem.run_bind, hu, hfs, Result.andThen_ok, hfl, e', Result.andThen_halt]
  case indexAddr t x i => exact still_of (fun w K => hgo' w K) (.indexAt _ _ _)
  case slice t x lo hi mx => exact still_of (fun w K => hgo' w K) (.sliceAt _ _ _ _ _)
  case field t x f => exact still_of (fun w K => hgo' w K) (.field _ _ _)
  case index t x i => exact still_of (fun w K => hgo' w K) (.index _ _ _)
  case extract x i => exact still_of (fun w K => hgo' w K) (.extract _ _)
  case makeFunc fn a b => exact still_of (fun w K => hgo' w K) (.pure _)
  case build t ps => exact still_of (fun w K => hgo' w K) (.build _ _)
  case binOp op t x y yt => exact still_of (fun w K => hgo' w K) (.binTwin _ _ _ _ _ _ hc)
  case nilCheck x =>
      have hp : ptrish (e x) = true := hc
      generalize hv : e x = v at hp
      cases v <;> simp only [ptrish] at hp <;> (try (cases hp; done))
      case pointer p =>
        cases p with
        | none => exact .bad fun w K => by rw [hgo']; simp only [execOp, hv]; exact id
        | some a => exact .inl ⟨.pointer (some a), fun w K => by rw [hgo']; simp only [execOp, hv]; exact Iff.rfl⟩
      case map r => exact .inl ⟨.map r, fun w K => by rw [hgo']; simp only [execOp, hv]; exact Iff.rfl⟩
      case func fn a b =>
        cases fn <;> (try (cases hp; done))
        exact .inl ⟨_, fun w K => by rw [hgo']; simp only [execOp, hv]; exact Iff.rfl⟩
  case call c =>
    obtain ⟨callee, args, ats⟩ := c
    cases callee <;> simp only [] at h <;> (try (cases h; done))
    case builtin b =>
    cases b <;> simp only [] at h <;> (try (cases h; done)) <;> simp only [condOk] at hc
    case len =>
      have ha : args.map e = (args.toList.map e).toArray := (map_toList_toArray e args).symm
      generalize args.toList.map e = l at ha hc
      match l, hc with
      | [x], hc => exact still_of (s := Builtin.len_ ats ty (args.map e)) (fun w K => hgo' w K) (by rw [ha]; exact .len _ _ _ hc)
      | [], hc => cases hc
      | _ :: _ :: _, hc => cases hc
    case cap =>
      have ha : args.map e = (args.toList.map e).toArray := (map_toList_toArray e args).symm
      generalize args.toList.map e = l at ha hc
      match l, hc with
      | [x], hc => exact still_of (s := Builtin.cap_ ats ty (args.map e)) (fun w K => hgo' w K) (by rw [ha]; exact .cap _ _ _ hc)
      | [], hc => cases hc
      | _ :: _ :: _, hc => cases hc
    case max =>
      exact still_of (s := Builtin.max_ ats ty (args.map e)) (fun w K => hgo' w K) (by rw [← map_toList_toArray]; exact .max _ _ _ hc)
    case min =>
      exact still_of (s := Builtin.min_ ats ty (args.map e)) (fun w K => hgo' w K) (by rw [← map_toList_toArray]; exact .min _ _ _ hc)

/-! ### what one operation does, in the frame -/
def bh (P : Program) (ops : Array Oper) (o : Oper) (a : Act) (w : World) (K : VK) : Prop :=
  if Region.wanted o (yielded ops a.tmps) then oneOp' P noP true a.eval o w K else K undef w

theorem oneOp_true {e : Operand → Value} {o : Oper} {w : World} {K : VK} {Kp : PK} : oneOp' P Kp true e o w K ↔
    (match o.op with | .load t a => oLD P t (e a) w K | _ => condOk P e o = true ∧ fin P K Kp ((execOp e o).run P w)) := by
  obtain ⟨dst, op, ty, pos, after, guard⟩ := o
  cases op <;> simp only [oneOp', oD_iff]

theorem Ext.refl (w : World) : Ext w w := fun _ _ h => h

theorem oLD_mono {t : TypeId} {a : Value} {w : World} {K K' : VK} (h : ∀ v w, K v w → K' v w) (hl : oLD P t a w K) : oLD P t a w K' := by
  obtain ⟨v, hv, hk⟩ := hl; exact ⟨v, hv, h _ _ hk⟩

theorem fin_mono {K K' : VK} (h : ∀ v w, K v w → K' v w) {r : Result Next} (hr : fin P K noP r) : fin P K' noP r := by
  cases r with
  | ok x w =>
    cases x <;> simp only [fin] at hr ⊢
    case value v => exact h _ _ hr
    case skip => exact h _ _ hr
    case enter f args => exact Calls.mono hr fun e w' he => by cases e <;> first | exact h _ _ he | exact he
    case row r args => exact Rows.mono hr fun v w' he => h _ _ he
  | halt x w => rw [fin_halt] at hr; exact hr.elim

theorem fin_inh {K : VK} {r : Result Next} (hr : fin P K noP r) : ∃ v w, K v w := by
  cases r with
  | ok x w =>
    cases x <;> simp only [fin] at hr
    case value v => exact ⟨_, _, hr⟩
    case skip => exact ⟨_, _, hr⟩
    case enter f args =>
      obtain ⟨e, w', fr, hR, _⟩ := hr []
      cases e with
      | returned v => exact ⟨_, _, hR⟩
      | panicked c => exact hR.elim
      | outgrown => exact hR.elim
    case row r args => obtain ⟨v, w', hR, _⟩ := hr default []; exact ⟨_, _, hR⟩
  | halt x w => rw [fin_halt] at hr; exact hr.elim

theorem bh_mono {ops : Array Oper} {o : Oper} {a : Act} {w : World} {K K' : VK} (h : ∀ v w, K v w → K' v w) (hb : bh P ops o a w K) : bh P ops o a w K' := by
  unfold bh at *
  split
  · rename_i hw; rw [if_pos hw, oneOp_true] at hb; rw [oneOp_true]
    split
    · rename_i hop; simp only [hop] at hb; exact oLD_mono h hb
    · rename_i hop
      split at hb
      · rename_i hop'; exact (hop _ _ hop').elim
      · exact ⟨hb.1, fin_mono h hb.2⟩
  · rename_i hw; rw [if_neg hw] at hb; exact h _ _ hb

theorem bh_inh {ops : Array Oper} {o : Oper} {a : Act} {w : World} {K : VK} (hb : bh P ops o a w K) : ∃ v w, K v w := by
  unfold bh at hb
  split at hb
  · rw [oneOp_true] at hb
    split at hb
    · obtain ⟨v, _, hk⟩ := hb; exact ⟨_, _, hk⟩
    · exact fin_inh hb.2
  · exact ⟨_, _, hb⟩

/-- unaffected by the other's slot -/
theorem bh_put {ops : Array Oper} {o : Oper} (hs : ∀ cs b, o.op ≠ .select cs b) {a : Act} {d : Option Tmp} {v : Value} (h : ∀ t, d = some t → t ∉ o.looksAt ops) {w : World} {K : VK} :
    bh P ops o (a.put d v) w K ↔ bh P ops o a w K := by
  unfold bh
  rw [wanted_put o a d v h]
  have he : ∀ x ∈ o.op.operands, (a.put d v).eval x = a.eval x := fun x hx => Act.eval_put fun t ht hxt => h t ht (by
      subst hxt; exact List.mem_append_left _ (List.mem_filterMap.2 ⟨.tmp t, by simpa using hx, rfl⟩))
  have hc : condOk P (a.put d v).eval o = condOk P a.eval o := by
    obtain ⟨dst, op, ty, pos, after, guard⟩ := o
    cases op <;> simp only [condOk]
    case binOp => simp only [Op.operands] at he; rw [he _ (by simp), he _ (by simp)]
    case nilCheck => simp only [Op.operands] at he; rw [he _ (by simp)]
    case call c =>
      obtain ⟨callee, args, ats⟩ := c
      have hm : args.toList.map (a.put d v).eval = args.toList.map a.eval := List.map_congr_left fun x hx => he x (by simp [Op.operands, Call.operands]; exact .inr (by simpa using hx))
      cases callee <;> simp only []
      case builtin b => cases b <;> simp only [hm]
  have hx : execOp (a.put d v).eval o = execOp a.eval o := execOp_put o hs a d v h
  have hl : ∀ t x, o.op = .load t x → (a.put d v).eval x = a.eval x := fun t x ho => he x (by rw [ho]; simp [Op.operands])
  simp only [oneOp_true, hc, hx]
  cases hop : o.op
  case load t x => simp only [hl t x hop]
  all_goals exact Iff.rfl

/-- the same value in whatever world, or nothing good -/
theorem bh_still {ops : Array Oper} {o : Oper} (h : cls o = 0) (a : Act) : (∃ v, ∀ w K, bh P ops o a w K ↔ K v w) ∨ (∀ w K, ¬ bh P ops o a w K) := by
  unfold bh
  by_cases hw : Region.wanted o (yielded ops a.tmps) = true
  · simp only [hw, if_true]; exact still0 a.eval o h
  · simp only [hw]; exact .inl ⟨undef, fun w K => Iff.rfl⟩

/-- what a load leaves -/
theorem bh_load {ops : Array Oper} {o : Oper} (h : cls o = 1) (a : Act) : (∃ v, ∀ w K, bh P ops o a w K ↔ K v w) ∨
    (∃ t x, ∀ w K, bh P ops o a w K ↔ oLD P t x w K) := by
  unfold bh
  by_cases hw : Region.wanted o (yielded ops a.tmps) = true
  · simp only [hw, if_true]
    obtain ⟨dst, op, ty, pos, after, guard⟩ := o
    cases op <;> simp only [cls] at h <;> (try (cases h; done))
    case load t x => exact .inr ⟨t, a.eval x, fun w K => by rw [oneOp_true]⟩
    case call c =>
      exfalso
      obtain ⟨callee, args, ats⟩ := c
      cases callee <;> simp only [] at h <;> (try (cases h; done))
      case builtin b => cases b <;> simp only [] at h <;> (try (cases h; done))
  · simp only [hw]; exact .inl ⟨undef, fun w K => Iff.rfl⟩

theorem Ext.alloc (w : World) (o : Obj) : Ext w (w.alloc o) := by
  intro p x h
  rw [World.cell?_alloc_lt w o p (World.block_lt_of_cell? w p h)]; exact h

theorem Ext.trans {w w1 w2 : World} (h : Ext w w1) (h' : Ext w1 w2) : Ext w w2 := fun p x hp => h' p x (h p x hp)

/-- a new block leaves the others -/
theorem bh_new {ops : Array Oper} {o : Oper} (h : cls o = 3) (a : Act) (w : World) {K : VK} (hb : bh P ops o a w K) : bh P ops o a w fun v w' => Ext w w' ∧ K v w' := by
  unfold bh at *
  by_cases hw : Region.wanted o (yielded ops a.tmps) = true
  · rw [if_pos hw] at hb ⊢
    obtain ⟨dst, op, ty, pos, after, guard⟩ := o
    have key : ∀ (s : Sem Value), (∀ w, (∃ v o', s.run P w = .ok v (w.alloc o')) ∨ (∃ h w', s.run P w = .halt h w')) → fin P K noP ((do pure (Next.value (← s)) : Sem Next).run P w) →
        fin P (fun v w' => Ext w w' ∧ K v w') noP ((do pure (Next.value (← s)) : Sem Next).run P w) := by
      intro s hs hk
      rcases hs w with ⟨v, o', hv⟩ | ⟨h, w', hh⟩
      · rw [Sem.run_bind, hv] at hk ⊢; exact ⟨Ext.alloc w o', hk⟩
      · rw [Sem.run_bind, hh, Result.andThen_halt, fin_halt] at hk; exact hk.elim
    have run2 : ∀ {α : Type} {s : Sem α} (_ : WF P s) (f : α → Sem Value), (∀ a w, (∃ v o', (f a).run P w = .ok v (w.alloc o')) ∨ (∃ h w', (f a).run P w = .halt h w')) →
        ∀ w, (∃ v o', (s >>= f).run P w = .ok v (w.alloc o')) ∨ (∃ h w', (s >>= f).run P w = .halt h w') := by
      intro α s hs f hf w
      rcases hs with ⟨v, hv⟩ | hb
      · rw [Sem.run_bind, hv]; exact hf v w
      · obtain ⟨h, w', e⟩ := hb w; rw [Sem.run_bind, e]; exact .inr ⟨h, w', rfl⟩
    rw [oneOp_true] at hb ⊢
    cases op <;> simp only [cls] at h <;> (try (cases h; done)) <;> simp only [] at hb ⊢
    case alloc t =>
      refine ⟨hb.1, key _ (fun w => ?_) hb.2⟩
      unfold Instr.alloc
      refine run2 (.zeroValue t) _ (fun z w => ?_) w
      exact .inl ⟨_, _, rfl⟩
    case box t x => exact ⟨hb.1, key _ (fun w => .inl ⟨_, _, rfl⟩) hb.2⟩
    case buildSlice t n ps =>
      refine ⟨hb.1, key _ (fun w => ?_) hb.2⟩
      unfold Instr.buildSlice
      refine run2 (.underlying t) _ (fun d w => ?_) w
      cases d <;> simp only [] <;> first
        | exact .inr ⟨_, _, rfl⟩
        | skip
      case slice elem =>
      refine run2 (.sizeOf elem) _ (fun sz w => ?_) w
      try dsimp only
      split
      · exact .inr ⟨_, _, rfl⟩
      · split
        · refine run2 (.pure _) _ (fun z w => ?_) w
          split
          · exact .inl ⟨_, _, rfl⟩
          · exact .inr ⟨_, _, rfl⟩
        · refine run2 (.zeroValue elem) _ (fun z w => ?_) w
          refine run2 (.pure _) _ (fun z w => ?_) w
          split
          · exact .inl ⟨_, _, rfl⟩
          · exact .inr ⟨_, _, rfl⟩
    case call c =>
      exfalso
      obtain ⟨callee, args, ats⟩ := c
      cases callee <;> simp only [] at h <;> (try (cases h; done))
      case builtin b => cases b <;> simp only [] at h <;> (try (cases h; done))
  · rw [if_neg hw] at hb ⊢; exact ⟨Ext.refl w, hb⟩

theorem commute {ops : Array Oper} {oi oj : Oper} (a : Act) (w : World) (hc : cls oi = 0 ∨ cls oj = 0 ∨ (cls oi = 1 ∧ (cls oj = 1 ∨ cls oj = 3))) {K : Value → VK}
    (h : bh P ops oi a w fun v w' => bh P ops oj a w' fun u w'' => K v u w'') : bh P ops oj a w fun u w' => bh P ops oi a w' fun v w'' => K v u w'' := by
  rcases hc with hi | hj | ⟨hi, hj⟩
  · rcases bh_still hi a with ⟨v, hv⟩ | hb
    · rw [hv] at h
      exact bh_mono (fun u w' hk => by rw [hv]; exact hk) h
    · exact (hb _ _ h).elim
  · rcases bh_still hj a with ⟨u, hu⟩ | hb
    · rw [hu]
      exact bh_mono (fun v w' hk => by rw [hu] at hk; exact hk) h
    · obtain ⟨v, w', hk⟩ := bh_inh h
      exact (hb _ _ hk).elim
  · rcases bh_load hi a with ⟨v, hv⟩ | ⟨t, x, hl⟩
    · rw [hv] at h
      exact bh_mono (fun u w' hk => by rw [hv]; exact hk) h
    · rw [hl] at h
      obtain ⟨v, hv, hk⟩ := h
      rcases hj with hj | hj
      · rcases bh_load hj a with ⟨u, hu⟩ | ⟨t', x', hl'⟩
        · rw [hu] at hk ⊢; rw [hl]; exact ⟨v, hv, hk⟩
        · rw [hl'] at hk ⊢
          obtain ⟨u, hu, hk⟩ := hk
          exact ⟨u, hu, by dsimp only; rw [hl]; exact ⟨v, hv, hk⟩⟩
      · refine bh_mono (fun u w' hk' => ?_) (bh_new hj a w hk)
        rw [hl]
        exact ⟨v, fun w1 h1 => hv w1 (hk'.1.trans h1), hk'.2⟩

/-! ### closed sets of listed operations, and masks -/
def Closed (ops : Array Oper) (listed : Array Bool) : Prop :=
  ∀ j oj, ops[j]? = some oj → listed.getD j false = true → ∀ e ∈ oj.after, Region.binds .any e = true → listed.getD e.on false = true

theorem testBit_foldl (l : List Edge) (acc : List Nat) (s i : Nat)
    (h : (l.foldl (fun s e => bif Region.binds .any e then s ||| (1 <<< e.on) ||| acc.getD e.on 0 else s) s).testBit i = true) :
    s.testBit i = true ∨ ∃ e ∈ l, Region.binds .any e = true ∧ (i = e.on ∨ (acc.getD e.on 0).testBit i = true) := by
  induction l generalizing s with
  | nil => exact .inl h
  | cons e l ih =>
    simp only [List.foldl_cons] at h
    rcases ih _ h with h1 | ⟨e', he', hb⟩
    · cases hbe : Region.binds .any e with
      | false => rw [hbe] at h1; exact .inl h1
      | true =>
        rw [hbe] at h1
        simp only [cond_true, Nat.testBit_or, Bool.or_eq_true] at h1
        rcases h1 with (h1 | h1) | h1
        · exact .inl h1
        · refine .inr ⟨e, List.mem_cons_self .., hbe, .inl ?_⟩
          rw [Nat.one_shiftLeft, Nat.testBit_two_pow] at h1
          simpa using (of_decide_eq_true h1).symm
        · exact .inr ⟨e, List.mem_cons_self .., hbe, .inr h1⟩
    · exact .inr ⟨e', List.mem_cons_of_mem _ he', hb⟩

/-- what the masks say of a closed set -/
def MaskOk (ops : Array Oper) (acc : List Nat) : Prop :=
  ∀ j i, (acc.getD j 0).testBit i = true → ∀ listed, Closed ops listed → listed.getD j false = true → listed.getD i false = true

theorem maskOk_of_direct {ops : Array Oper} {acc : List Nat} (hm : MaskOk ops acc) {o : Oper} {i : Nat} (h : (maskOf acc o).testBit i = true) {listed : Array Bool} (hc : Closed ops listed)
    (hd : ∀ e ∈ o.after, Region.binds .any e = true → listed.getD e.on false = true) : listed.getD i false = true := by
  unfold maskOf at h
  rcases testBit_foldl _ _ _ _ h with h0 | ⟨e, he, hb, h1⟩
  · simp at h0
  · have hl := hd e (by simpa using he) hb
    rcases h1 with rfl | h1
    · exact hl
    · exact hm e.on i h1 listed hc hl

theorem getD_append_lt {acc : List Nat} {x j : Nat} (h : j < acc.length) : (acc ++ [x]).getD j 0 = acc.getD j 0 := by
  simp [List.getD_eq_getElem?_getD, List.getElem?_append, h]

theorem masksGo_spec {ops : Array Oper} : ∀ (l : List Oper) (acc : List Nat), (∀ j : Nat, l[j]? = ops[acc.length + j]?) → MaskOk ops acc →
    (∀ j o, ops[j]? = some o → j < acc.length → ∃ acc', MaskOk ops acc' ∧ acc.getD j 0 = maskOf acc' o) →
    MaskOk ops (masksGo l acc) ∧ (∀ j o, ops[j]? = some o → ∃ acc', MaskOk ops acc' ∧ (masksGo l acc).getD j 0 = maskOf acc' o) := by
  intro l
  induction l with
  | nil =>
    intro acc hl hm hd
    refine ⟨hm, fun j o hj => hd j o hj ?_⟩
    rcases Nat.lt_or_ge j acc.length with h | h
    · exact h
    · have := hl (j - acc.length)
      rw [show acc.length + (j - acc.length) = j by omega, hj] at this
      simp at this
  | cons o l ih =>
    intro acc hl hm hd
    have ho : ops[acc.length]? = some o := by have := hl 0; simpa using this.symm
    have hm' : MaskOk ops (acc ++ [maskOf acc o]) := by
      intro j i h listed hc hj
      rcases Nat.lt_or_ge j acc.length with hlt | hge
      · rw [getD_append_lt hlt] at h; exact hm j i h listed hc hj
      · by_cases hje : j = acc.length
        · subst hje
          have h' : (maskOf acc o).testBit i = true := by simpa [List.getD_eq_getElem?_getD] using h
          exact maskOk_of_direct hm h' hc (fun e he hb => hc _ o ho hj e he hb)
        · have : (acc ++ [maskOf acc o]).getD j 0 = 0 := by
            rw [List.getD_eq_getElem?_getD, List.getElem?_eq_none (by simp; omega)]; rfl
          rw [this] at h; simp at h
    refine ih _ (fun j => by have := hl (j + 1); simp only [List.length_append, List.length_singleton]; rw [show acc.length + 1 + j = acc.length + (j + 1) by omega]; simpa using this) hm' ?_
    intro j o' hj hlt
    simp only [List.length_append, List.length_singleton] at hlt
    rcases Nat.lt_or_ge j acc.length with h | h
    · rw [getD_append_lt h]; exact hd j o' hj h
    · have : j = acc.length := by omega
      subst this
      have : o' = o := Option.some.inj (hj.symm.trans ho)
      subst this
      exact ⟨acc, hm, by simp [List.getD_eq_getElem?_getD]⟩

theorem maskOk_nil (ops : Array Oper) : MaskOk ops [] := fun j i h => by simp at h

theorem masks_spec (ops : Array Oper) : ∀ j o i, ops[j]? = some o → ((masksGo ops.toList []).getD j 0).testBit i = true → ∀ listed, Closed ops listed →
    (∀ e ∈ o.after, Region.binds .any e = true → listed.getD e.on false = true) → listed.getD i false = true := by
  intro j o i hj h listed hc hd
  obtain ⟨_, h2⟩ := masksGo_spec (ops := ops) ops.toList [] (fun j => by simp) (maskOk_nil ops) (fun j o _ hlt => by simp at hlt)
  obtain ⟨acc', hm, he⟩ := h2 j o hj
  rw [he] at h
  exact maskOk_of_direct hm h hc hd

end wf
end Go.Proofs.YtlbihkgfejgefaaDoor.L
