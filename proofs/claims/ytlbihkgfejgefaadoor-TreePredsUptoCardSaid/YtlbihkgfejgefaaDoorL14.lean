/- Lib 14: structs compared. -/
import Derived.Test.YtlbihkgfejgefaaDoorL13
namespace Go.Proofs.YtlbihkgfejgefaaDoor.L
open Go Go.RowKit
set_option linter.unusedVariables false

inductive Kd where
  | i (k : IntKind) | s | b
def Kd.fits : Kd → Value → Bool
  | .i k, .int k' _ => decide (k = k')
  | .s, .string _ => true
  | .b, .bool _ => true
  | _, _ => false
def fitsAll : List Kd → List Value → Bool
  | [], [] => true
  | k :: ks, v :: vs => k.fits v && fitsAll ks vs
  | _, _ => false

def goK (P : Program) (k : TypeId → Option (List Kd)) : List Field → Nat → Option (List Kd)
  | [], _ => some []
  | f :: l, off => bif (f.name != "_") && Nat.beq f.offset off then
      match k f.type with
      | some ks => match P.info? f.type with
        | some inf => bif Nat.beq inf.size ks.length then (goK P k l (off + ks.length)).map (ks ++ ·) else none
        | none => none
      | none => none
    else none

def eqKinds (P : Program) : Nat → TypeId → Option (List Kd)
  | 0, _ => none
  | d + 1, t => match P.underlying t with
    | some (.int k) => some [.i k]
    | some .string => some [.s]
    | some .bool => some [.b]
    | some (.struct fs) => bif P.stoodInHeld t then none else goK P (eqKinds P d) fs.toList 0
    | _ => none

/-- the value of a struct or of one cell -/
def vOf (P : Program) (t : TypeId) (cs : List Value) : Value := match P.underlying t with | some (.struct _) => .agg cs.toArray | _ => cs.headD undef

theorem fitsAll_len : ∀ {ks : List Kd} {vs : List Value}, fitsAll ks vs = true → vs.length = ks.length
  | [], [], _ => rfl
  | k :: ks, v :: vs, h => by simp only [fitsAll, Bool.and_eq_true] at h; simp [fitsAll_len h.2]
  | [], _ :: _, h => by simp [fitsAll] at h
  | _ :: _, [], h => by simp [fitsAll] at h
theorem fitsAll_append : ∀ {ks ks' : List Kd} {vs : List Value}, fitsAll (ks ++ ks') vs = true → ∃ v1 v2, vs = v1 ++ v2 ∧ fitsAll ks v1 = true ∧ fitsAll ks' v2 = true
  | [], ks', vs, h => ⟨[], vs, rfl, rfl, h⟩
  | k :: ks, ks', [], h => by simp [fitsAll] at h
  | k :: ks, ks', v :: vs, h => by
    simp only [List.cons_append, fitsAll, Bool.and_eq_true] at h
    obtain ⟨v1, v2, rfl, h1, h2⟩ := fitsAll_append h.2
    exact ⟨v :: v1, v2, rfl, by simp [fitsAll, h.1, h1], h2⟩

section
variable {P : Program} {w : World}

theorem run_part {t : TypeId} {d : Nat} {ks : List Kd} (hk : eqKinds P d t = some ks) {inf : TypeInfo} (hi : P.info? t = some inf) (hs : inf.size = ks.length) (pre v post : List Value) (hf : fitsAll ks v = true) :
    (Go.part t (pre ++ (v ++ post)).toArray pre.length).run P w = .ok (vOf P t v) w := by
  have hl := fitsAll_len hf
  cases d with
  | zero => simp [eqKinds] at hk
  | succ d =>
  unfold Go.part Go.isAgg vOf
  unfold eqKinds at hk
  cases hu : P.underlying t with
  | none => simp [hu] at hk
  | some u =>
    rw [hu] at hk
    have scalar : (∀ fs, u ≠ .struct fs) → ks.length = 1 → (match (.some u : Option TypeDesc) with | some (.struct _) => Value.agg v.toArray | _ => v.headD undef) = v.headD undef ∧ ∃ x, v = [x] := by
      intro h1 h2
      refine ⟨by cases u <;> first | rfl | exact absurd rfl (h1 _), ?_⟩
      cases v with
      | nil => simp at hl; omega
      | cons x v => cases v with
        | nil => exact ⟨x, rfl⟩
        | cons y v => simp at hl; omega
    cases u <;> (try (simp at hk; done))
    case struct fs =>
      simp only [Sem.run_bind, run_und hu, Result.andThen_ok, Sem.run_pure, if_true, run_size hi, hs]
      congr 2
      rw [List.extract_toArray]
      congr 1
      simp [List.extract_eq_take_drop, ← hl]
    all_goals
      have hlen : ks.length = 1 := by cases hk; rfl
      obtain ⟨e, x, rfl⟩ := scalar (by intro fs h; cases h) hlen
      simp only [Sem.run_bind, run_und hu, Result.andThen_ok, Sem.run_pure, Bool.false_eq_true, if_false]
      have : (pre ++ ([x] ++ post)).toArray[pre.length]? = some x := by simp
      rw [this]
      simp

def cellEq : Value → Value → Bool
  | .int _ a, .int _ b => decide (a = b)
  | .string a, .string b => decide (a = b)
  | .bool a, .bool b => a == b
  | _, _ => false
def cellsEq : List Value → List Value → Bool
  | [], [] => true
  | x :: xs, y :: ys => cellEq x y && cellsEq xs ys
  | _, _ => false
theorem cellsEq_append : ∀ {x1 y1 x2 y2 : List Value}, x1.length = y1.length → cellsEq (x1 ++ x2) (y1 ++ y2) = (cellsEq x1 y1 && cellsEq x2 y2)
  | [], [], _, _, _ => by simp [cellsEq]
  | x :: x1, y :: y1, x2, y2, h => by simp only [List.cons_append, cellsEq]; rw [cellsEq_append (by simpa using h), Bool.and_assoc]
  | [], _ :: _, _, _, h => by simp at h
  | _ :: _, [], _, _, h => by simp at h

theorem bytes_eq_iff' (a b : ByteArray) : (a == b) = decide (a = b) := by
  obtain ⟨x⟩ := a
  obtain ⟨y⟩ := b
  have : ((⟨x⟩ : ByteArray) == ⟨y⟩) = (x == y) := rfl
  rw [this, Bool.eq_iff_iff]; simp

theorem equalIn_run : ∀ (d D : Nat) (t : TypeId) (ks : List Kd) (xs ys : List Value), d ≤ D → eqKinds P d t = some ks → fitsAll ks xs = true → fitsAll ks ys = true →
    (Op.equalIn D t (vOf P t xs) (vOf P t ys)).run P w = .ok (cellsEq xs ys) w := by
  intro d
  induction d with
  | zero => intro D t ks xs ys _ h; simp [eqKinds] at h
  | succ d ih =>
    intro D t ks xs ys hD hk hx hy
    obtain ⟨D, rfl⟩ : ∃ D', D = D' + 1 := ⟨D - 1, by omega⟩
    unfold Op.equalIn vOf
    unfold eqKinds at hk
    cases hu : P.underlying t with
    | none => simp [hu] at hk
    | some u =>
      rw [hu] at hk
      have hlx := fitsAll_len hx
      have hly := fitsAll_len hy
      cases u <;> (try (simp at hk; done))
      case struct fs =>
        simp only at hk
        cases hst : P.stoodInHeld t with
        | true => rw [hst] at hk; simp at hk
        | false =>
        rw [hst, cond_false] at hk
        simp only [Sem.run_bind, run_und hu, Result.andThen_ok, run_program, hst, Bool.false_eq_true, if_false]
        rw [← Array.forIn_toList]
        generalize hF : (fun (f : Field) (__s : Option Bool × Unit) => _ : Field → Option Bool × Unit → Sem (ForInStep (Option Bool × Unit))) = Fn
        -- the fields, from an offset on
        have key : ∀ (l : List Field) (px py qx qy : List Value) (kl : List Kd), xs = px ++ qx → ys = py ++ qy → px.length = py.length → goK P (eqKinds P d) l px.length = some kl → fitsAll kl qx = true → fitsAll kl qy = true →
            (forIn l (none, ()) Fn).run P w = .ok (if cellsEq qx qy = true then (none, ()) else (some false, ())) w := by
          intro l
          induction l with
          | nil =>
            intro px py qx qy kl _ _ _ h hqx hqy
            simp [goK] at h; subst h
            have h1 := fitsAll_len hqx; have h2 := fitsAll_len hqy
            have : qx = [] := List.eq_nil_of_length_eq_zero h1
            have : qy = [] := List.eq_nil_of_length_eq_zero h2
            subst_vars
            simp [cellsEq]
          | cons f l ihl =>
            intro px py qx qy kl hex hey hp h hqx hqy
            unfold goK at h
            cases hc : ((f.name != "_") && Nat.beq f.offset px.length) with
            | false => rw [hc] at h; simp at h
            | true =>
            rw [hc, cond_true] at h
            simp only [Bool.and_eq_true, bne_iff_ne, ne_eq] at hc
            obtain ⟨hname, hoff⟩ := hc
            have hoff : f.offset = px.length := Nat.eq_of_beq_eq_true hoff
            cases hkf : eqKinds P d f.type with
            | none => rw [hkf] at h; simp at h
            | some kf =>
            rw [hkf] at h
            cases hinf : P.info? f.type with
            | none => rw [hinf] at h; simp at h
            | some inf =>
            rw [hinf] at h
            simp only at h
            cases hsz : Nat.beq inf.size kf.length with
            | false => rw [hsz] at h; simp at h
            | true =>
            rw [hsz, cond_true] at h
            have hsz : inf.size = kf.length := Nat.eq_of_beq_eq_true hsz
            cases hgo : goK P (eqKinds P d) l (px.length + kf.length) with
            | none => rw [hgo] at h; simp at h
            | some kr =>
            rw [hgo] at h
            simp at h; subst h
            obtain ⟨x1, x2, rfl, fx1, fx2⟩ := fitsAll_append hqx
            obtain ⟨y1, y2, rfl, fy1, fy2⟩ := fitsAll_append hqy
            have lx := fitsAll_len fx1
            have ly := fitsAll_len fy1
            have hrec := ihl (px ++ x1) (py ++ y1) x2 y2 kr (by simp [hex]) (by simp [hey]) (by simp [hp, lx, ly]) (by rw [List.length_append, lx]; exact hgo) fx2 fy2
            have p1 := run_part (P := P) (w := w) hkf hinf hsz px x1 x2 fx1
            have p2 := run_part (P := P) (w := w) hkf hinf hsz py y1 y2 fy1
            rw [← hex, ← hoff] at p1
            rw [← hey, ← hp, ← hoff] at p2
            have e := ih D f.type kf x1 y1 (by omega) hkf fx1 fy1
            have h0 : ∀ s, (Fn f s).run P w = .ok (if cellsEq x1 y1 = true then .yield (none, ()) else .done (some false, ())) w := by
              intro s
              subst hF
              simp only [ne_eq, hname, not_false_eq_true, if_true, Sem.run_bind, p1, p2, Result.andThen_ok, e]
              cases cellsEq x1 y1 <;> simp
            rw [List.forIn_cons, Sem.run_bind, h0, cellsEq_append (by rw [lx, ly])]
            cases hb : cellsEq x1 y1 with
            | true => simp only [Result.andThen_ok, if_true, hrec, Bool.true_and]
            | false => simp
        rw [key fs.toList [] [] xs ys ks rfl rfl rfl hk hx hy]
        cases cellsEq xs ys <;> simp
      all_goals
        cases hk
        obtain ⟨x, rfl⟩ : ∃ x, xs = [x] := by
          cases xs with
          | nil => simp at hlx
          | cons x xs => cases xs with
            | nil => exact ⟨x, rfl⟩
            | cons y xs => simp at hlx
        obtain ⟨y, rfl⟩ : ∃ x, ys = [x] := by
          cases ys with
          | nil => simp at hly
          | cons x xs => cases xs with
            | nil => exact ⟨x, rfl⟩
            | cons y xs => simp at hly
        simp only [fitsAll, Bool.and_true] at hx hy
        cases x <;> simp only [Kd.fits] at hx <;> (try (cases hx; done))
        cases y <;> simp only [Kd.fits] at hy <;> (try (cases hy; done))
        simp only [Sem.run_bind, run_und hu, Result.andThen_ok, List.headD_cons]
        try (simp only [decide_eq_true_eq] at hx hy; subst hx; subst hy)
        first
          | (simp only [bytes_eq_iff', cellsEq, cellEq, Bool.and_true, Sem.run_pure]; done)
          | simp [cellsEq, cellEq, BEq.beq]
end

section
variable {P : Program} {Kp : PK} {K : VK} {w : World}
class EqT (P : Program) (t : Nat) (ks : outParam (List Kd)) : Prop where
  h : eqKinds P 6 t = some ks
  g : P.eqGuardType P.depth t = false
  agg : isScalar P t = false

theorem vOf_agg {t : Nat} {ks : List Kd} (h : EqT P t ks) (cs : List Value) : vOf P t cs = .agg cs.toArray := by
  have h1 := h.agg
  have h2 := h.h
  unfold isScalar at h1
  unfold eqKinds at h2
  unfold vOf
  cases hu : P.underlying t with
  | none => rw [hu] at h2; simp at h2
  | some u => rw [hu] at h1 h2; cases u <;> simp at h1 h2 ⊢

theorem run_eqA {t : Nat} {ks : List Kd} [h : EqT P t ks] {xs ys : List Value} (hx : fitsAll ks xs = true) (hy : fitsAll ks ys = true) : (Op.equal t (.agg xs.toArray) (.agg ys.toArray)).run P w = .ok (cellsEq xs ys) w := by
  have := equalIn_run (P := P) (w := w) 6 Op.maxDepth t ks xs ys (by decide) h.h hx hy
  rw [vOf_agg h, vOf_agg h] at this
  exact this
theorem run_guardA {op : BinOp} {t : Nat} {ox oy : Operand} {ks : List Kd} [h : EqT P t ks] {xs ys : Array Value} : (eqGuard op t ox oy (.agg xs) (.agg ys)).run P w = .ok () w := by
  unfold eqGuard
  cases op <;> simp [Sem.run_bind, run_program, h.g]

theorem rEqlA {t : Nat} {ox oy : Operand} {ks : List Kd} [h : EqT P t ks] {xs ys : List Value} (hx : fitsAll ks xs = true) (hy : fitsAll ks ys = true) (hk : K (.bool (cellsEq xs ys)) w) : oBin P .eql t ox oy (.agg xs.toArray) (.agg ys.toArray) Kp w K := by
  refine rBin_of ?_ hk
  simp only [Sem.run_bind, run_guardA (P := P) (w := w) (op := .eql) (t := t) (ox := ox) (oy := oy), Result.andThen_ok, binOp, run_eqA hx hy, Sem.run_pure]
theorem rNeqA {t : Nat} {ox oy : Operand} {ks : List Kd} [h : EqT P t ks] {xs ys : List Value} (hx : fitsAll ks xs = true) (hy : fitsAll ks ys = true) (hk : K (.bool (!cellsEq xs ys)) w) : oBin P .neq t ox oy (.agg xs.toArray) (.agg ys.toArray) Kp w K := by
  refine rBin_of ?_ hk
  simp only [Sem.run_bind, run_guardA (P := P) (w := w) (op := .neq) (t := t) (ox := ox) (oy := oy), Result.andThen_ok, binOp, run_eqA hx hy, Sem.run_pure]
end
end Go.Proofs.YtlbihkgfejgefaaDoor.L
