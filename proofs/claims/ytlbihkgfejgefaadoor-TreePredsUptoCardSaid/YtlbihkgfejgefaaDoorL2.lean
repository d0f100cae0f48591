/- Lib 2: operations that neither look at the world nor turn it; any order of a region comes to the order of its text. -/
import Derived.Test.YtlbihkgfejgefaaDoorL1
namespace Go.Proofs.YtlbihkgfejgefaaDoor.L
open Go

section wf
variable {P : Program} {α β : Type}

/-- in whatever world the same value, the world as it was; or in whatever world a halt -/
def WF (P : Program) (s : Sem α) : Prop := (∃ a, ∀ w, s.run P w = .ok a w) ∨ (∀ w, ∃ h w', s.run P w = .halt h w')

theorem WF.pure (a : α) : WF P (pure a : Sem α) := .inl ⟨a, fun _ => rfl⟩
theorem WF.halt (h : Halt) : WF P (Sem.halt h : Sem α) := .inr fun w => ⟨h, w, rfl⟩
theorem WF.bind {s : Sem α} {f : α → Sem β} (h : WF P s) (hf : ∀ a, WF P (f a)) : WF P (s >>= f) := by
  rcases h with ⟨a, ha⟩ | hb
  · rcases hf a with ⟨b, hb⟩ | hb
    · exact .inl ⟨b, fun w => by rw [Sem.run_bind, ha w]; exact hb w⟩
    · exact .inr fun w => by rw [Sem.run_bind, ha w]; exact hb w
  · exact .inr fun w => by obtain ⟨h, w', e⟩ := hb w; exact ⟨h, w', by rw [Sem.run_bind, e]; rfl⟩
theorem WF.ite {c : Prop} [Decidable c] {x y : Sem α} (hx : WF P x) (hy : WF P y) : WF P (if c then x else y) := by split <;> assumption
theorem WF.program : WF P Go.program := .inl ⟨P, fun _ => rfl⟩
theorem WF.stuck (s : String) : WF P (Go.stuck s : Sem α) := .halt _
theorem WF.unsupported (u : Unsupported) : WF P (Go.unsupported u : Sem α) := .halt _
theorem WF.goPanic (v : Value) : WF P (Go.goPanic v : Sem α) := .halt _
theorem WF.underlying (t : TypeId) : WF P (Go.underlying t) := by
  unfold Go.underlying
  refine .bind .program fun p => ?_
  split <;> first | exact .pure _ | exact .stuck _
theorem WF.typeInfo (t : TypeId) : WF P (Go.typeInfo t) := by
  unfold Go.typeInfo
  refine .bind .program fun p => ?_
  split <;> first | exact .pure _ | exact .stuck _
theorem WF.sizeOf (t : TypeId) : WF P (Go.sizeOf t) := .bind (.typeInfo t) fun _ => .pure _
theorem WF.isAgg (t : TypeId) : WF P (Go.isAgg t) := by
  unfold Go.isAgg
  refine .bind (.underlying t) fun d => ?_
  split <;> exact .pure _
theorem WF.part (t : TypeId) (cs : Array Value) (off : Nat) : WF P (Go.part t cs off) := by
  unfold Go.part
  refine .bind (.isAgg t) fun b => ?_
  split
  · exact .bind (.sizeOf t) fun _ => .pure _
  · split <;> first | exact .pure _ | exact .stuck _
theorem WF.asIntOf (v : Value) : WF P (Go.asIntOf v) := by
  unfold Go.asIntOf; split <;> first | exact .pure _ | exact .unsupported _ | exact .stuck _
theorem WF.asAgg (v : Value) : WF P (Go.asAgg v) := by
  unfold Go.asAgg; split <;> first | exact .pure _ | exact .stuck _
theorem WF.asBool (v : Value) : WF P (Go.asBool v) := by
  unfold Go.asBool; split <;> first | exact .pure _ | exact .stuck _
theorem WF.sureAddr (v : Value) : WF P (Instr.sureAddr v) := by
  unfold Instr.sureAddr; split <;> first | exact .pure _ | exact .stuck _

/-- whatever the first part comes to, the second halts -/
theorem WF.then_halt {s : Sem α} {f : α → Sem β} (hs : ∀ w, ∃ a w', s.run P w = .ok a w') (hf : ∀ a w, ∃ h w', (f a).run P w = .halt h w') : WF P (s >>= f) :=
  .inr fun w => by obtain ⟨a, w', e⟩ := hs w; rw [Sem.run_bind, e]; exact hf a w'

theorem runtimePanic_simple (x y : Int) (s : Bool) (c : BoundsCode) (w : World) : ∃ h w', (Go.runtimePanic (.bounds x y s c) : Sem α).run P w = .halt h w' := by
  exact ⟨_, _, rfl⟩
theorem WF.nilDeref : WF P (Go.runtimePanic .nilDeref : Sem α) := .inr fun _ => ⟨_, _, rfl⟩
theorem WF.error (m : String) : WF P (Go.runtimePanic (.error m) : Sem α) := .inr fun _ => ⟨_, _, rfl⟩

theorem WF.boundsPanic (k : IntKind) (x y : Int) (c : BoundsCode) : WF P (Go.boundsPanic k x y c : Sem α) := by
  unfold Go.boundsPanic
  try dsimp only
  split
  · refine .then_halt (fun w => ?_) (fun a w => runtimePanic_simple _ _ _ _ _)
    rw [Sem.run_map, run_choose]; split <;> exact ⟨_, _, rfl⟩
  · refine .then_halt (fun w => ⟨_, _, rfl⟩) (fun a w => runtimePanic_simple _ _ _ _ _)


theorem WF.asAddr (v : Value) : WF P (Go.asAddr v) := by
  unfold Go.asAddr; split <;> first | exact .pure _ | exact .nilDeref | exact .stuck _

theorem WF.sliceBound (x : Value) (y : Nat) (c : BoundsCode) : WF P (Instr.sliceBound x y c) := by
  unfold Instr.sliceBound
  try dsimp only
  (repeat' (first | exact WF.pure _ | exact WF.stuck _ | exact WF.unsupported _ | exact WF.asIntOf _ | exact WF.asAddr _ | exact WF.asAgg _ | exact WF.asBool _ | exact WF.sureAddr _ | exact WF.underlying _ | exact WF.typeInfo _ | exact WF.sizeOf _ | exact WF.isAgg _ | exact WF.part _ _ _ | exact WF.boundsPanic _ _ _ _ | exact WF.nilDeref | exact WF.error _ | exact WF.program | refine WF.bind ?_ (fun _ => ?_) | split))

theorem WF.sliceBounds (b : Bool) (len cap : Nat) (lo hi mx : Option Value) : WF P (Instr.sliceBounds b len cap lo hi mx) := by
  unfold Instr.sliceBounds
  try dsimp only
  repeat' (first | exact WF.sliceBound _ _ _ | (repeat' (first | exact WF.pure _ | exact WF.stuck _ | exact WF.unsupported _ | exact WF.asIntOf _ | exact WF.asAddr _ | exact WF.asAgg _ | exact WF.asBool _ | exact WF.sureAddr _ | exact WF.underlying _ | exact WF.typeInfo _ | exact WF.sizeOf _ | exact WF.isAgg _ | exact WF.part _ _ _ | exact WF.boundsPanic _ _ _ _ | exact WF.nilDeref | exact WF.error _ | exact WF.program | refine WF.bind ?_ (fun _ => ?_) | split)))

theorem WF.slice (t : TypeId) (x : Value) (lo hi mx : Option Value) : WF P (Instr.slice t x lo hi mx) := by
  unfold Instr.slice
  try dsimp only
  repeat' (first | exact WF.sliceBounds _ _ _ _ _ _ | exact WF.pure _ | exact WF.stuck _ | exact WF.asAddr _ | exact WF.underlying _ | exact WF.sizeOf _ | refine WF.bind ?_ (fun _ => ?_) | split)

theorem WF.sliceAt (t : TypeId) (x : Value) (lo hi mx : Option Value) : WF P (Instr.sliceAt t x lo hi mx) := by
  unfold Instr.sliceAt
  try dsimp only
  repeat' (first | exact WF.sliceBounds _ _ _ _ _ _ | exact WF.slice _ _ _ _ _ | exact WF.pure _ | exact WF.sureAddr _ | exact WF.underlying _ | exact WF.sizeOf _ | refine WF.bind ?_ (fun _ => ?_) | split)

theorem WF.indexAt (t : TypeId) (x i : Value) : WF P (Instr.indexAt t x i) := by
  unfold Instr.indexAt
  try dsimp only
  (repeat' (first | exact WF.pure _ | exact WF.stuck _ | exact WF.unsupported _ | exact WF.asIntOf _ | exact WF.asAddr _ | exact WF.asAgg _ | exact WF.asBool _ | exact WF.sureAddr _ | exact WF.underlying _ | exact WF.typeInfo _ | exact WF.sizeOf _ | exact WF.isAgg _ | exact WF.part _ _ _ | exact WF.boundsPanic _ _ _ _ | exact WF.nilDeref | exact WF.error _ | exact WF.program | refine WF.bind ?_ (fun _ => ?_) | split))

theorem WF.index (t : TypeId) (x i : Value) : WF P (Instr.index t x i) := by
  unfold Instr.index
  try dsimp only
  (repeat' (first | exact WF.pure _ | exact WF.stuck _ | exact WF.unsupported _ | exact WF.asIntOf _ | exact WF.asAddr _ | exact WF.asAgg _ | exact WF.asBool _ | exact WF.sureAddr _ | exact WF.underlying _ | exact WF.typeInfo _ | exact WF.sizeOf _ | exact WF.isAgg _ | exact WF.part _ _ _ | exact WF.boundsPanic _ _ _ _ | exact WF.nilDeref | exact WF.error _ | exact WF.program | refine WF.bind ?_ (fun _ => ?_) | split))

theorem WF.field (t : TypeId) (x : Value) (f : Nat) : WF P (Instr.field t x f) := by
  unfold Instr.field
  try dsimp only
  (repeat' (first | exact WF.pure _ | exact WF.stuck _ | exact WF.unsupported _ | exact WF.asIntOf _ | exact WF.asAddr _ | exact WF.asAgg _ | exact WF.asBool _ | exact WF.sureAddr _ | exact WF.underlying _ | exact WF.typeInfo _ | exact WF.sizeOf _ | exact WF.isAgg _ | exact WF.part _ _ _ | exact WF.boundsPanic _ _ _ _ | exact WF.nilDeref | exact WF.error _ | exact WF.program | refine WF.bind ?_ (fun _ => ?_) | split))

theorem WF.extract (x : Value) (i : Nat) : WF P (Instr.extract x i) := by
  unfold Instr.extract
  (repeat' (first | exact WF.pure _ | exact WF.stuck _ | exact WF.unsupported _ | exact WF.asIntOf _ | exact WF.asAddr _ | exact WF.asAgg _ | exact WF.asBool _ | exact WF.sureAddr _ | exact WF.underlying _ | exact WF.typeInfo _ | exact WF.sizeOf _ | exact WF.isAgg _ | exact WF.part _ _ _ | exact WF.boundsPanic _ _ _ _ | exact WF.nilDeref | exact WF.error _ | exact WF.program | refine WF.bind ?_ (fun _ => ?_) | split))

theorem WF.equal_bool1 (d : Nat) (t : TypeId) (a b : Bool) : WF P (Op.equalIn (d + 1) t (.bool a) (.bool b)) := by
  rw [Op.equalIn]
  refine .bind (.underlying t) fun d => ?_
  cases d <;> first | exact .pure _ | exact .stuck _

theorem WF.equal_bool (t : TypeId) (a b : Bool) : WF P (Op.equal t (.bool a) (.bool b)) := WF.equal_bool1 9999 t a b

theorem WF.shift (op : BinOp) (k : IntKind) (x : Int) (yk : IntKind) (y : Int) : WF P (Op.shift op k x yk y) := by
  unfold Op.shift
  split
  · exact .error _
  · dsimp only; split <;> first | exact .pure _ | exact .stuck _

theorem WF.ints (op : BinOp) (t : TypeId) (k k' : IntKind) (a b : Int) : WF P (Go.binOp op t (.int k a) (.int k' b)) := by
  cases op <;> simp only [Go.binOp] <;>
  first
    | exact .shift _ _ _ _ _
    | (split
       · exact .stuck _
       · first
         | (unfold Op.intArith; split <;> first | exact .pure _ | exact .stuck _)
         | (unfold Op.intDiv; split
            · exact .error _
            · first | exact .pure _ | (split <;> first | exact .pure _ | exact .stuck _))
         | (unfold Op.intBits; dsimp only; first | exact .pure _ | (split <;> first | exact .pure _ | exact .stuck _))
         | (unfold Op.intCmp; first | exact .pure _ | (split <;> first | exact .pure _ | exact .stuck _)))

theorem WF.strs (op : BinOp) (t : TypeId) (a b : ByteArray) : WF P (Go.binOp op t (.string a) (.string b)) := by
  cases op <;> simp only [Go.binOp, Op.stringOp] <;> first | exact .pure _ | exact .stuck _ | (split <;> first | exact .pure _ | exact .unsupported _)

theorem WF.bools (op : BinOp) (t : TypeId) (a b : Bool) : WF P (Go.binOp op t (.bool a) (.bool b)) := by
  cases op <;> simp only [Go.binOp] <;> first | exact .stuck _ | exact .bind (.equal_bool _ _ _) fun _ => .pure _

theorem WF.mapM {γ δ : Type} {f : γ → Sem δ} (hf : ∀ x, WF P (f x)) : ∀ l : List γ, WF P (l.mapM f) := by
  intro l
  induction l with
  | nil => exact .pure _
  | cons x l ih => rw [List.mapM_cons]; exact .bind (hf x) fun _ => .bind ih fun _ => .pure _

theorem WF.mapA {γ δ : Type} {f : γ → Sem δ} (hf : ∀ x, WF P (f x)) (a : Array γ) : WF P (a.mapM f) := by
  obtain ⟨l⟩ := a
  rw [List.mapM_toArray]
  rcases WF.mapM hf l with ⟨v, hv⟩ | hb
  · exact .inl ⟨v.toArray, fun w => by rw [Sem.run_map, hv w]; rfl⟩
  · exact .inr fun w => by obtain ⟨h, w', e⟩ := hb w; exact ⟨h, w', by rw [Sem.run_map, e]; rfl⟩

theorem WF.zeroValue (t : TypeId) : WF P (Go.zeroValue t) := by
  unfold Go.zeroValue
  refine .bind (.typeInfo t) fun i => ?_
  split <;> first | exact .pure _ | exact .unsupported _

theorem WF.build (t : TypeId) (ps : Array (Nat × Value)) : WF P (Instr.build t ps) := by
  unfold Instr.build
  refine .bind (.zeroValue t) fun z => .bind (.underlying t) fun d => ?_
  split
  · refine .bind (.mapA (fun f => .bind (.sizeOf _) fun _ => .pure _) _) fun pl => ?_
    split <;> first | exact .pure _ | exact .stuck _
  · refine .bind (.sizeOf _) fun s => ?_
    split <;> first | exact .pure _ | exact .stuck _
  · exact .stuck _

theorem WF.len (ts : Array TypeId) (t : TypeId) (x : Value) (h : lenOk [x] = true) : WF P (Builtin.len_ ts t #[x]) := by
  unfold Builtin.len_
  split
  · rename_i p t' x' hx
    have : x' = x := by simp at hx; exact hx.2.symm
    subst this
    refine .bind (.underlying _) fun d => ?_
    cases x' <;> simp only [lenOk, shp] at h <;> (try (simp at h; done)) <;>
      (split <;> first | exact .pure _ | exact .stuck _ | contradiction | (refine .bind (.underlying _) fun d => ?_; split <;> first | exact .pure _ | exact .stuck _))
  · exact .stuck _

theorem WF.cap (ts : Array TypeId) (t : TypeId) (x : Value) (h : lenOk [x] = true) : WF P (Builtin.cap_ ts t #[x]) := by
  unfold Builtin.cap_
  split
  · rename_i p t' x' hx
    have : x' = x := by simp at hx; exact hx.2.symm
    subst this
    refine .bind (.underlying _) fun d => ?_
    cases x' <;> simp only [lenOk, shp] at h <;> (try (simp at h; done)) <;>
      (split <;> first | exact .pure _ | exact .stuck _ | contradiction | (refine .bind (.underlying _) fun d => ?_; split <;> first | exact .pure _ | exact .stuck _))
  · exact .stuck _

theorem WF.foldInts {f : Value → Value → Sem Value} (hf : ∀ k x j y, ∃ z, f (.int k x) (.int j y) = (Sem.pure (Value.int k z) : Sem Value)) : ∀ (l : List Value) (k : IntKind) (x : Int), (∀ v ∈ l, shp v = 1) → WF P (l.foldlM f (.int k x)) := by
  intro l
  induction l with
  | nil => intro k x _; exact .pure _
  | cons v l ih =>
    intro k x h
    have hv := h v (List.mem_cons_self ..)
    cases v <;> simp only [shp] at hv <;> (try (cases hv; done))
    case int j y =>
      obtain ⟨z, hz⟩ := hf k x j y
      rw [List.foldlM_cons, hz]
      exact ih k z fun v hv => h v (List.mem_cons_of_mem _ hv)

theorem WF.ints_of {f : Value → Value → Sem Value} (hf : ∀ k x j y, ∃ z, f (.int k x) (.int j y) = (Sem.pure (Value.int k z) : Sem Value)) (l : List Value) (h : intsOk l = true) (s : String) : WF P (match l with | [] => Go.stuck s | x :: rest => rest.foldlM f x) := by
  cases l with
  | nil => exact .stuck _
  | cons v l =>
    simp only [intsOk, List.all_cons, Bool.and_eq_true, beq_iff_eq, List.all_eq_true] at h
    have hv := h.1
    cases v <;> simp only [shp] at hv <;> (try (cases hv; done))
    exact WF.foldInts hf l _ _ h.2

theorem WF.max (ts : Array TypeId) (t : TypeId) (l : List Value) (h : intsOk l = true) : WF P (Builtin.max_ ts t l.toArray) := by
  unfold Builtin.max_
  exact WF.ints_of (fun k x j y => ⟨_, rfl⟩) l h _

theorem WF.min (ts : Array TypeId) (t : TypeId) (l : List Value) (h : intsOk l = true) : WF P (Builtin.min_ ts t l.toArray) := by
  unfold Builtin.min_
  exact WF.ints_of (fun k x j y => ⟨_, rfl⟩) l h _

/-- the same, and of what comes φ is known -/
def WFq (P : Program) (s : Sem α) (φ : α → Prop) : Prop := (∃ a, φ a ∧ ∀ w, s.run P w = .ok a w) ∨ (∀ w, ∃ h w', s.run P w = .halt h w')
theorem WFq.bind {s : Sem α} {f : α → Sem β} {φ : α → Prop} (h : WFq P s φ) (hf : ∀ a, φ a → WF P (f a)) : WF P (s >>= f) := by
  rcases h with ⟨a, hφ, ha⟩ | hb
  · rcases hf a hφ with ⟨b, hb⟩ | hb
    · exact .inl ⟨b, fun w => by rw [Sem.run_bind, ha w]; exact hb w⟩
    · exact .inr fun w => by rw [Sem.run_bind, ha w]; exact hb w
  · exact .inr fun w => by obtain ⟨h, w', e⟩ := hb w; exact ⟨h, w', by rw [Sem.run_bind, e]; rfl⟩
theorem WF.q {s : Sem α} (h : WF P s) : WFq P s fun _ => True := by
  rcases h with ⟨a, ha⟩ | hb
  · exact .inl ⟨a, trivial, ha⟩
  · exact .inr hb

def goodV (v : Value) : Prop := plainV v = true ∨ plainA v = true
theorem WFq.part (t : TypeId) (cs : Array Value) (off : Nat) (h : cs.toList.all plainV = true) : WFq P (Go.part t cs off) goodV := by
  unfold Go.part
  rcases WF.isAgg (P := P) t with ⟨b, hb⟩ | hb
  · cases b with
    | true =>
      rcases WF.sizeOf (P := P) t with ⟨n, hn⟩ | hn
      · refine .inl ⟨.agg (cs.extract off (off + n)), .inr ?_, fun w => by simp only [Sem.run_bind, hb w, Result.andThen_ok, if_true, hn w, Sem.run_pure]⟩
        simp only [plainA, List.all_eq_true] at h ⊢
        intro v hv
        refine h v ?_
        rw [Array.toList_extract] at hv
        exact List.mem_of_mem_drop (List.mem_of_mem_take hv)
      · exact .inr fun w => by obtain ⟨h', w', e⟩ := hn w; exact ⟨h', w', by simp only [Sem.run_bind, hb w, Result.andThen_ok, if_true, e]; rfl⟩
    | false =>
      cases hc : cs[off]? with
      | none =>
        refine .inr fun w => ?_
        obtain ⟨h', w', e⟩ : ∃ h' w', (Go.stuck "part: no such cell" : Sem Value).run P w = .halt h' w' := ⟨_, w, rfl⟩
        exact ⟨h', w', by simp only [Sem.run_bind, hb w, Result.andThen_ok, Bool.false_eq_true, if_false, e]⟩
      | some v =>
        refine .inl ⟨v, .inl ?_, fun w => by simp only [Sem.run_bind, hb w, Result.andThen_ok, Bool.false_eq_true, if_false, Sem.run_pure]⟩
        simp only [List.all_eq_true] at h
        obtain ⟨hlt, rfl⟩ := Array.getElem?_eq_some_iff.1 hc
        exact h _ (by simp)
  · exact .inr fun w => by obtain ⟨h', w', e⟩ := hb w; exact ⟨h', w', by rw [Sem.run_bind, e]; rfl⟩

theorem WF.forIn {γ σ : Type} {f : γ → σ → Sem (ForInStep σ)} (hf : ∀ x s, WF P (f x s)) (l : List γ) (s : σ) : WF P (forIn l s f) := by
  induction l generalizing s with
  | nil => simp only [List.forIn_nil]; exact .pure _
  | cons x l ih =>
    simp only [List.forIn_cons]
    refine .bind (hf x s) fun r => ?_
    cases r with
    | done b => exact .pure _
    | yield b => exact ih b

theorem WF.equalIn : ∀ (d : Nat) (t : TypeId) (x y : Value), goodV x → goodV y → WF P (Op.equalIn d t x y) := by
  intro d
  induction d with
  | zero => intro t x y _ _; unfold Op.equalIn; exact .unsupported _
  | succ d ih =>
    intro t x y hx hy
    unfold Op.equalIn
    refine .bind (.underlying t) fun u => ?_
    have stuckAll : ∀ (m : String), WF P (Go.stuck m : Sem Bool) := fun m => .stuck m
    cases x with
    | int k a => cases y <;> first
        | (rcases hy with h | h <;> (simp [plainV, plainA] at h; done))
        | (cases u <;> first | exact .stuck _ | (dsimp only; split <;> first | exact .pure _ | exact .stuck _))
    | bool a => cases y <;> first
        | (rcases hy with h | h <;> (simp [plainV, plainA] at h; done))
        | (cases u <;> first | exact .stuck _ | exact .pure _)
    | string a => cases y <;> first
        | (rcases hy with h | h <;> (simp [plainV, plainA] at h; done))
        | (cases u <;> first | exact .stuck _ | exact .pure _)
    | agg xs =>
      have hxs : xs.toList.all plainV = true := by rcases hx with h | h; exact absurd h (by simp [plainV]); exact h
      cases y <;> first
        | (rcases hy with h | h <;> (simp [plainV, plainA] at h; done))
        | (cases u <;> first | exact .stuck _ | skip)
      · rename_i ys n elem
        have hys : ys.toList.all plainV = true := by rcases hy with h | h; exact absurd h (by simp [plainV]); exact h
        dsimp only
        refine .bind (.sizeOf _) fun sz => ?_
        simp only [Std.Legacy.Range.forIn_eq_forIn_range']
        refine .bind (.forIn (fun i s => ?_) _ _) fun r => ?_
        · refine WFq.bind (.part _ _ _ hxs) fun a ha => WFq.bind (.part _ _ _ hys) fun b hb => .bind (ih _ _ _ ha hb) fun e => ?_
          split <;> exact .pure _
        · (try dsimp only); split <;> exact .pure _
      · rename_i ys fields
        have hys : ys.toList.all plainV = true := by rcases hy with h | h; exact absurd h (by simp [plainV]); exact h
        dsimp only
        refine .bind .program fun p => ?_
        split
        · exact .unsupported _
        · rw [← Array.forIn_toList]
          refine .bind (.forIn (fun f s => ?_) _ _) fun r => ?_
          · split
            · refine WFq.bind (.part _ _ _ hxs) fun a ha => WFq.bind (.part _ _ _ hys) fun b hb => .bind (ih _ _ _ ha hb) fun e => ?_
              split <;> exact .pure _
            · exact .pure _
          · (try dsimp only); split <;> exact .pure _
    | _ => rcases hx with h | h <;> (simp [plainV, plainA] at h; done)

theorem WF.eqGuardIn : ∀ (d : Nat) (t : TypeId) (x y : Value), WF P (Op.eqGuardIn d t x y) := by
  intro d
  induction d with
  | zero => intro t x y; unfold Op.eqGuardIn; exact .unsupported _
  | succ d ih =>
    intro t x y
    unfold Op.eqGuardIn
    refine .bind (.underlying t) fun u => ?_
    split
    · exact .pure _
    · rw [← Array.forIn_toList]
      refine .bind (.forIn (fun f s => ?_) _ _) fun r => ?_
      · split
        · refine .bind (.part _ _ _) fun a => .bind (.part _ _ _) fun b => .bind (ih _ _ _) fun e => ?_
          split <;> exact .pure _
        · exact .pure _
      · (try dsimp only); split <;> exact .pure _
    · refine .bind (.sizeOf _) fun sz => ?_
      simp only [Std.Legacy.Range.forIn_eq_forIn_range']
      refine .bind (.forIn (fun i s => ?_) _ _) fun r => ?_
      · refine .bind (.part _ _ _) fun a => .bind (.part _ _ _) fun b => .bind (ih _ _ _) fun e => ?_
        split <;> exact .pure _
      · (try dsimp only); split <;> exact .pure _
    · exact .pure _

theorem WF.binTwin (op : BinOp) (t : TypeId) (x y : Operand) (a b : Value) (h : twin a b = true) : WF P (do Go.eqGuard op t x y a b; Go.binOp op t a b) := by
  have hg : WF P (Go.eqGuard op t x y a b) := by
    unfold Go.eqGuard
    cases a <;> cases b <;> first
      | (simp [twin, shp, plainA] at h; done)
      | (try dsimp only; repeat' (first | exact WF.pure _ | exact WF.unsupported _ | (refine WF.bind WF.program fun _ => ?_) | (refine WF.bind (WF.eqGuardIn _ _ _ _) fun _ => ?_) | split))
  refine .bind hg fun _ => ?_
  cases a <;> cases b <;> first
    | (simp [twin, shp, plainA] at h; done)
    | exact .ints _ _ _ _ _ _ | exact .strs _ _ _ _ | exact .bools _ _ _ _
    | skip
  rename_i xs ys
  have hxy : plainA (.agg xs) = true ∧ plainA (.agg ys) = true := by simpa [twin, shp] using h
  cases op <;> unfold Go.binOp <;> first
    | exact .stuck _ | exact .unsupported _
    | (dsimp only; exact .bind (.equalIn _ _ _ _ (.inr hxy.1) (.inr hxy.2)) fun _ => .pure _)
    | (dsimp only; first | exact .stuck _ | exact .unsupported _)

end wf
end Go.Proofs.YtlbihkgfejgefaaDoor.L
