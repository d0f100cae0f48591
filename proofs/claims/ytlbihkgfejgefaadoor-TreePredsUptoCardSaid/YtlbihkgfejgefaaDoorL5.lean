/- Lib 5: the words of a printed body ('nice text'), and the entry of a call. -/
import Derived.Test.YtlbihkgfejgefaaDoorL4
namespace Go.Proofs.YtlbihkgfejgefaaDoor.L
open Go

def bodyOf (fn : Func) : Code := match fn.body with | some c => c | none => .skip

def env0 : List Value → Env
  | [], _ => undef
  | a :: _, 0 => a
  | _ :: l, t + 1 => env0 l t

def mkRes : List Value → Value
  | [v] => v
  | vs => .tuple vs.toArray

/-- a result that lies in a cell -/
def oRL (P : Program) (t : TypeId) (a : Value) (w : World) (K : Value → Prop) : Prop :=
  ∃ v, (do loadVar t (← asAddr a) : Sem Value).run P w = .ok v w ∧ K v

def resW (P : Program) : List ResultVar → Env → World → List Value → VK → Prop
  | [], _, w, acc, R => R (mkRes acc) w
  | .tmp t :: l, ρ, w, acc, R => resW P l ρ w (acc ++ [ρ t]) R
  | .cell a t :: l, ρ, w, acc, R => oRL P t (ρ a) w fun v => resW P l ρ w (acc ++ [v]) R

def retQ (P : Program) (rs : List ResultVar) (R : VK) : Exit → Env → World → Prop
  | .normal, ρ, w => resW P rs ρ w [] R
  | .ret, ρ, w => resW P rs ρ w [] R
  | _, _, _ => False

def callR (R : VK) (Kp : PK) : Ending → World → Prop
  | .returned v, w => R v w
  | .panicked c, w => Kp c w
  | .outgrown, _ => False


def nLoop (S : List Nat) (init : List Value) (w : World) (body : Env → (List Value → World → Prop) → World → Prop) : Prop :=
  ∃ (J : List Value → World → Prop) (μ : List Value → World → Nat), J init w ∧
    ∀ (f : Env) w1, J (S.map f) w1 → body f (fun l w' => J l w' ∧ μ l w' < μ (S.map f) w1) w1

def nCut (S : List Nat) (x : (List Value → World → Prop) → Prop) (rest : Env → World → Prop) : Prop :=
  ∃ M : List Value → World → Prop, x M ∧ ∀ (f : Env) w', M (S.map f) w' → rest f w'

theorem env0_get (l : List Value) (n : Nat) (t : Nat) : ((l.toArray ++ Array.replicate n undef).getD t undef : Value) = env0 l t := by
  induction l generalizing t with
  | nil => simp [env0, Array.getElem?_replicate]; split <;> rfl
  | cons a l ih =>
    cases t with
    | zero => simp [env0, Array.getElem?_append]
    | succ t =>
      have := ih t
      simp [env0] at this ⊢
      rw [← this]
      simp [Array.getElem?_append]

theorem resW_run {P : Program} {w : World} {R : VK} (tmps : Array Value) : ∀ (l : List ResultVar) (acc : List Value), resW P l (fun t => tmps.getD t undef) w acc R →
    ∃ vs, (l.mapM fun (x : ResultVar) => (match x with | .tmp t => pure (tmps.getD t undef) | .cell a t => do loadVar t (← asAddr (tmps.getD a undef)) : Sem Value)).run P w = .ok vs w ∧ R (mkRes (acc ++ vs)) w := by
  intro l
  induction l with
  | nil => intro acc h; exact ⟨[], by simp, by rw [List.append_nil]; exact h⟩
  | cons x l ih =>
    intro acc h
    cases x with
    | tmp t =>
      obtain ⟨vs, h1, h2⟩ := ih _ h
      refine ⟨tmps.getD t undef :: vs, ?_, by simpa using h2⟩
      simp only [List.mapM_cons, Sem.run_bind, Sem.run_pure, Result.andThen_ok, h1]
    | cell a t =>
      obtain ⟨v, hv, h⟩ := h
      obtain ⟨vs, h1, h2⟩ := ih _ h
      refine ⟨v :: vs, ?_, by simpa using h2⟩
      rw [List.mapM_cons, Sem.run_bind]
      dsimp only
      rw [hv]
      simp only [Result.andThen_ok, Sem.run_bind, h1, Sem.run_pure]

theorem results_run {P : Program} {w : World} {R : VK} {fn : Func} (tmps : Array Value) (h : resW P fn.results.toList (fun t => tmps.getD t undef) w [] R) :
    ∃ v, (results fn tmps).run P w = .ok v w ∧ R v w := by
  obtain ⟨vs, h1, h2⟩ := resW_run tmps _ _ h
  refine ⟨mkRes vs, ?_, h2⟩
  unfold results
  rw [show fn.results = fn.results.toList.toArray from rfl, List.mapM_toArray]
  simp only [Sem.run_bind, Sem.run_map]
  erw [h1]
  simp only [Result.andThen_ok, Sem.run_pure]
  match vs with
  | [] => simp [mkRes]
  | [t] => simp [mkRes]
  | t :: u :: l => simp [mkRes]

theorem calls_of_W {P : Program} {f : FuncId} {fn : Func} {c : Code} {args : List Value} {w : World} {R : VK} {Kp : PK} {an : Ann}
    (hmix : P.follows .mixedOrders = true) (hf : P.funcs[f]? = some fn) (hb : fn.body = some c) (hn : args.length ≤ fn.ntmps) (hs : slotsOk fn.ntmps c = true)
    (h : W P an Kp c (retQ P fn.results.toList R) (env0 args) w) : Calls P f args.toArray w (callR R Kp) := by
  refine calls_of_wp hf hb ?_
  have hr : Rel fn.ntmps { tmps := args.toArray ++ Array.replicate (fn.ntmps - args.toArray.size) undef, defers := [] } (env0 args) :=
    ⟨by simp; omega, rfl, fun t => env0_get _ _ _⟩
  refine wp_mono (W_sound hmix c hs _ _ _ _ hr h) fun e a w' hp => ?_
  have fin : ∀ ρ, Rel fn.ntmps a ρ → resW P fn.results.toList ρ w' [] R → a.defers = [] ∧ ∃ v, (results fn a.tmps).run P w' = .ok v w' ∧ callR R Kp (.returned v) w' := by
    intro ρ hr hR
    have : (fun t => a.tmps.getD t undef) = ρ := funext fun t => hr.get t
    rw [← this] at hR
    exact ⟨hr.defers, results_run a.tmps hR⟩
  cases e with
  | normal => obtain ⟨ρ, hr, _, hq⟩ := hp; exact fin ρ hr hq
  | ret => obtain ⟨ρ, hr, _, hq⟩ := hp; exact fin ρ hr hq
  | panic c => exact hp
  | outgrown => exact hp.elim
  | exit id => obtain ⟨ρ, _, _, hq⟩ := hp; exact hq.elim
  | goto id => obtain ⟨ρ, _, _, hq⟩ := hp; exact hq.elim

/-- the same out of a printed text -/
theorem calls_of_N {P : Program} {f : FuncId} {fn : Func} {c : Code} {args : List Value} {w : World} {R : VK} {Kp : PK} {an : Ann} {N : Prop}
    (hmix : P.follows .mixedOrders = true) (hf : P.funcs[f]? = some fn) (hb : fn.body = some c) (hn : Nat.ble args.length fn.ntmps = true) (hs : slotsOk fn.ntmps c = true)
    (he : W P an Kp c (retQ P fn.results.toList R) (env0 args) w = N) (h : N) : Calls P f args.toArray w (callR R Kp) :=
  calls_of_W hmix hf hb (Nat.le_of_ble_eq_true hn) hs (he ▸ h)

end Go.Proofs.YtlbihkgfejgefaaDoor.L
