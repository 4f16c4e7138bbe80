/- Operations: those that hand back a value and leave the world alone. -/
import Derived.Test.YtkmjldihlgchdaaL2
import Derived.IntWalk
set_option linter.unusedVariables false
set_option linter.unusedSimpArgs false
namespace Go.Proofs.Ytkmjldihlgchdaa.M

/-! ## What is known of the program's types, as instances -/
class TU (P : Program) (t : Nat) (d : outParam TypeDesc) : Prop where h : P.underlying t = some d
class TI (P : Program) (t : Nat) (size bytes : outParam Nat) (z : outParam Value) : Prop where h : ∃ i, P.info? t = some i ∧ i.size = size ∧ i.bytes = bytes ∧ i.zero = some z
/-- A field of a struct: where it lies (it has a cell at least). -/
class TF (P : Program) (s f : Nat) (off ft : outParam Nat) : Prop where h : ∃ fs fl, P.underlying s = some (.struct fs) ∧ fs[f]? = some fl ∧ fl.offset = off ∧ fl.type = ft ∧ ∃ i, P.info? ft = some i ∧ i.size ≠ 0
class CF (P : Program) (f : Nat) : Prop where h : ∀ args w, (callFunc f args).run P w = .ok (.enter f args) w

def aggD : TypeDesc → Bool
  | .struct _ | .array _ _ => true
  | _ => false

section
variable {P : Program} {w : World}
theorem run_und {t : Nat} {d : TypeDesc} [h : TU P t d] : (underlying t).run P w = .ok d w := run_underlying h.h w
theorem run_size {t n b : Nat} {z : Value} [h : TI P t n b z] : (sizeOf t).run P w = .ok n w := by
  obtain ⟨i, h1, h2, h3, h4⟩ := h.h
  simp [sizeOf, typeInfo, h1, h2]
theorem run_zero {t n b : Nat} {z : Value} [h : TI P t n b z] : (zeroValue t).run P w = .ok z w := by
  obtain ⟨i, h1, h2, h3, h4⟩ := h.h
  simp [zeroValue, typeInfo, h1, h4]
theorem run_isAgg {t : Nat} {d : TypeDesc} [h : TU P t d] : (isAgg t).run P w = .ok (aggD d) w := by
  unfold isAgg
  simp only [Sem.run_bind, run_und, Result.andThen_ok]
  cases d <;> rfl
theorem add_lit (b o n : Nat) : (⟨b, o, none⟩ : Addr).add n = ⟨b, o + n, none⟩ := by unfold Addr.add; split <;> simp_all
theorem cell_lit {b o : Nat} {cs : Array Value} {T : Nat} {fr : Nat × Nat} (h : w.heap[b]? = some (.cells cs T fr)) : w.cell? ⟨b, o, none⟩ = cs[o]? := by simp [World.cell?, h]
end

/-- Bundles of small equations, for simp. -/
theorem zH : (∀ (p : Prop) [Decidable p], (decide p = true) = p) ∧ (∀ (p : Prop) [Decidable p], (decide p = false) = ¬p) ∧ (∀ b : Bool, ((!b) = true) = (b = false)) ∧ (∀ b : Bool, ((!b) = false) = (b = true)) ∧ (∀ a b : Int, (¬a < b) = (b ≤ a)) ∧ (∀ a b : Int, (¬a ≤ b) = (b < a)) ∧ (∀ b : Bool, (¬b = true) = (b = false)) ∧ (∀ b : Bool, (¬b = false) = (b = true)) ∧ (∀ p : Option Addr, (p.isNone = true) = (p = none)) ∧ (∀ p : Option Addr, (p.isSome = true) = (p ≠ none)) := by
  refine ⟨fun p _ => by simp, fun p _ => by simp, fun b => by simp, fun b => by simp, fun a b => by simp, fun a b => by simp, fun b => by simp, fun b => by simp, fun p => by simp, fun p => by cases p <;> simp⟩
theorem zR : (∀ (a : Value) (l : List Value), (a :: l).length = l.length + 1) ∧ ([] : List Value).length = 0 ∧ (∀ n : Nat, (n ≤ n) = True) ∧ (∀ a b : Option (List Value), (if True then a else b) = a) ∧ (∀ l : List Value, l.drop 0 = l) ∧ (∀ (a : Value) (l : List Value) (n : Nat), (a :: l).drop (n + 1) = l.drop n) ∧ (∀ (a : Value) (l : List Value) (n : Nat), (a :: l).take (n + 1) = a :: l.take n) ∧ (∀ l : List Value, l.take 0 = []) :=
  ⟨fun _ _ => rfl, rfl, fun n => by simp, fun _ _ => rfl, fun _ => rfl, fun _ _ _ => rfl, fun _ _ _ => rfl, fun _ => rfl⟩
theorem zF : (∀ l : List Value, l.toArray.toList = l) ∧ (True ∧ True) = True ∧ (∀ (a : Nat × Nat) (l : List (Nat × Nat)), (a :: l)[0]? = some a) ∧ (∀ (a : Nat × Nat) (l : List (Nat × Nat)) (n : Nat), (a :: l)[n + 1]? = l[n]?) ∧ (∀ (a : Value) (l m : List Value), (a :: l) ++ m = a :: (l ++ m)) ∧ (∀ l : List Value, [] ++ l = l) ∧ (∀ l : List Value, l ++ [] = l) ∧ (∀ n : Nat, 0 + n = n) :=
  ⟨fun _ => rfl, by simp, fun _ _ => rfl, fun _ _ _ => rfl, fun _ _ _ => rfl, fun _ => rfl, fun l => List.append_nil l, fun n => Nat.zero_add n⟩
theorem zS : (∀ (a b : Value) (l : List Value), (a :: l).set 0 b = b :: l) ∧ (∀ (a b : Value) (l : List Value) (n : Nat), (a :: l).set (n + 1) b = a :: l.set n b) := ⟨fun _ _ _ => rfl, fun _ _ _ _ => rfl⟩
theorem zX : (∀ (f : Value → List Value) (a : Value) (l : List Value), (a :: l).flatMap f = f a ++ l.flatMap f) ∧ (∀ f : Value → List Value, ([] : List Value).flatMap f = []) := ⟨fun _ _ _ => by simp, fun _ => by simp⟩
/-- n cells from off on. -/
def rowAt (cs : List Value) (off n : Nat) : Option (List Value) := if off + n ≤ cs.length then some ((cs.drop off).take n) else none

/-! ## Arithmetic -/
def binV : BinOp → Value → Value → Option Value
  | op, .int k a, .int k' b => if k = k' then
      match op with
      | .add => some (.int k (k.wrap (a + b)))
      | .sub => some (.int k (k.wrap (a - b)))
      | .mul => some (.int k (k.wrap (a * b)))
      | .eql => some (.bool (decide (a = b)))
      | .neq => some (.bool (!decide (a = b)))
      | .lss => some (.bool (decide (a < b)))
      | .leq => some (.bool (decide (a ≤ b)))
      | .gtr => some (.bool (decide (b < a)))
      | .geq => some (.bool (decide (b ≤ a)))
      | _ => none
    else none
  | _, _, _ => none

section
variable {P : Program} {k : World} {N : Nat} {e : Env} {L : List HP} {d : Option Nat} {ty : Nat} {ps : String} {af : Array Edge} {g : Option (Nat × Bool)}

theorem OV.move {x : Operand} {v : Value} (h : e.ev x = some v) : OV P k N e L ⟨d, .move x, ty, ps, af, g⟩ v := fun a w ha hs => by simp [execOp, ha.ev h]
theorem OV.assign {x : Operand} {v : Value} (h : e.ev x = some v) : OV P k N e L ⟨d, .assign x, ty, ps, af, g⟩ v := fun a w ha hs => by simp [execOp, ha.ev h]
theorem OV.pick {c x y : Operand} {b : Bool} {u v : Value} (hc : e.ev c = some (.bool b)) (hx : e.ev x = some u) (hy : e.ev y = some v) :
    OV P k N e L ⟨d, .pick c x y, ty, ps, af, g⟩ (if b then u else v) := fun a w ha hs => by simp [execOp, ha.ev hc, ha.ev hx, ha.ev hy, asBool]
theorem OV.extract {x : Operand} {i : Nat} {vs : List Value} {v : Value} (h : e.ev x = some (.tuple vs.toArray)) (hv : vs[i]? = some v) :
    OV P k N e L ⟨d, .extract x i, ty, ps, af, g⟩ v := fun a w ha hs => by simp [execOp, ha.ev h, Instr.extract, hv]
theorem OV.not {x : Operand} {t : Nat} {b : Bool} (h : e.ev x = some (.bool b)) : OV P k N e L ⟨d, .unOp .not t x, ty, ps, af, g⟩ (.bool (!b)) := fun a w ha hs => by simp [execOp, ha.ev h, Op.unary]
theorem OV.neg {x : Operand} {t : Nat} {n : Int} {kk : IntKind} (h : e.ev x = some (.int kk n)) : OV P k N e L ⟨d, .unOp .neg t x, ty, ps, af, g⟩ (.int kk (kk.wrap (0 - n))) := fun a w ha hs => by simp [execOp, ha.ev h, Op.unary, Op.intArith]

theorem beqD (a b : Int) : (a == b) = decide (a = b) := by
  by_cases h : a = b
  · subst h; simp
  · simp [h]
theorem run_v {P : Program} {s : Sem Value} {w w' : World} {v : Value} (h : s.run P w = .ok v w') : (do pure (Next.value (← s)) : Sem Next).run P w = .ok (.value v) w' := by simp [h]
theorem run_u {P : Program} {s : Sem Unit} {w w' : World} (h : s.run P w = .ok () w') : (do s; pure Next.skip : Sem Next).run P w = .ok .skip w' := by simp [h]
theorem exec_bin {ρ : Operand → Value} {d : Option Nat} {op : BinOp} {t t' ty : Nat} {x y : Operand} {ps : String} {af : Array Edge} {g : Option (Nat × Bool)} :
    execOp ρ ⟨d, .binOp op t x y t', ty, ps, af, g⟩ = (do pure (Next.value (← (do eqGuard op t x y (ρ x) (ρ y); binOp op t (ρ x) (ρ y))))) := rfl
theorem run_bin {op : BinOp} {t : Nat} {x y : Operand} {u v r : Value} {w : World} (h : binV op u v = some r) :
    (do eqGuard op t x y u v; binOp op t u v : Sem Value).run P w = .ok r w := by
  cases u <;> cases v <;> simp [binV] at h
  obtain ⟨rfl, h⟩ := h
  cases op <;> simp at h <;> subst h <;> simp [eqGuard, binOp, Op.intArith, Op.intCmp, bne, beqD]
theorem OV.bin {op : BinOp} {t t' : Nat} {x y : Operand} {u v r : Value} (hx : e.ev x = some u) (hy : e.ev y = some v) (h : binV op u v = some r) :
    OV P k N e L ⟨d, .binOp op t x y t', ty, ps, af, g⟩ r := fun a w ha hs => by
  have := run_bin (P := P) (t := t) (x := x) (y := y) (w := w) h
  rw [exec_bin, ha.ev hx, ha.ev hy]
  exact run_v this

theorem OV.binAt {op : BinOp} {t t' : Nat} {x y : Operand} {u v r r' : Value} (hx : e.ev x = some u) (hy : e.ev y = some v) (h : binV op u v = some r) (hr : r = r') :
    OV P k N e L ⟨d, .binOp op t x y t', ty, ps, af, g⟩ r' := hr ▸ OV.bin hx hy h
theorem OV.addI {t t' : Nat} {x y : Operand} {a b : Int} (hx : e.ev x = some (.int .i64 a)) (hy : e.ev y = some (.int .i64 b)) (h : -9223372036854775808 ≤ a + b ∧ a + b ≤ 9223372036854775807) :
    OV P k N e L ⟨d, .binOp .add t x y t', ty, ps, af, g⟩ (.int .i64 (a + b)) := OV.binAt hx hy rfl (by rw [IntWalk.i64_in _ h])
theorem OV.subI {t t' : Nat} {x y : Operand} {a b : Int} (hx : e.ev x = some (.int .i64 a)) (hy : e.ev y = some (.int .i64 b)) (h : -9223372036854775808 ≤ a - b ∧ a - b ≤ 9223372036854775807) :
    OV P k N e L ⟨d, .binOp .sub t x y t', ty, ps, af, g⟩ (.int .i64 (a - b)) := OV.binAt hx hy rfl (by rw [IntWalk.i64_in _ h])
theorem OV.mulI {t t' : Nat} {x y : Operand} {a b : Int} (hx : e.ev x = some (.int .i64 a)) (hy : e.ev y = some (.int .i64 b)) (h : -9223372036854775808 ≤ a * b ∧ a * b ≤ 9223372036854775807) :
    OV P k N e L ⟨d, .binOp .mul t x y t', ty, ps, af, g⟩ (.int .i64 (a * b)) := OV.binAt hx hy rfl (by rw [IntWalk.i64_in _ h])
theorem OV.addU {t t' : Nat} {x y : Operand} {a b : Int} (hx : e.ev x = some (.int .u64 a)) (hy : e.ev y = some (.int .u64 b)) (h : 0 ≤ a + b ∧ a + b ≤ 18446744073709551615) :
    OV P k N e L ⟨d, .binOp .add t x y t', ty, ps, af, g⟩ (.int .u64 (a + b)) := OV.binAt hx hy rfl (by rw [IntWalk.u64_in _ h])
theorem OV.subU {t t' : Nat} {x y : Operand} {a b : Int} (hx : e.ev x = some (.int .u64 a)) (hy : e.ev y = some (.int .u64 b)) (h : 0 ≤ a - b ∧ a - b ≤ 18446744073709551615) :
    OV P k N e L ⟨d, .binOp .sub t x y t', ty, ps, af, g⟩ (.int .u64 (a - b)) := OV.binAt hx hy rfl (by rw [IntWalk.u64_in _ h])
theorem OV.mulU {t t' : Nat} {x y : Operand} {a b : Int} (hx : e.ev x = some (.int .u64 a)) (hy : e.ev y = some (.int .u64 b)) (h : 0 ≤ a * b ∧ a * b ≤ 18446744073709551615) :
    OV P k N e L ⟨d, .binOp .mul t x y t', ty, ps, af, g⟩ (.int .u64 (a * b)) := OV.binAt hx hy rfl (by rw [IntWalk.u64_in _ h])
/-- n % m and n / m, m not 0: as Go has them. -/
theorem OV.rem {t t' : Nat} {x y : Operand} {kk : IntKind} {a b : Int} (hx : e.ev x = some (.int kk a)) (hy : e.ev y = some (.int kk b)) (h : b ≠ 0) :
    OV P k N e L ⟨d, .binOp .rem t x y t', ty, ps, af, g⟩ (.int kk (a.tmod b)) := fun a w ha hs => by
  simp [execOp, ha.ev hx, ha.ev hy, eqGuard, binOp, Op.intDiv, h]
theorem OV.remN {t t' : Nat} {x y : Operand} {kk : IntKind} {a b : Int} (hx : e.ev x = some (.int kk a)) (hy : e.ev y = some (.int kk b)) (h : 0 ≤ a ∧ 0 < b) :
    OV P k N e L ⟨d, .binOp .rem t x y t', ty, ps, af, g⟩ (.int kk (a % b)) := by
  rw [← Int.tmod_eq_emod_of_nonneg h.1]; exact OV.rem hx hy (by omega)
theorem OV.quoI {t t' : Nat} {x y : Operand} {a b : Int} (hx : e.ev x = some (.int .i64 a)) (hy : e.ev y = some (.int .i64 b)) (h : 0 ≤ a ∧ a ≤ 9223372036854775807 ∧ 1 ≤ b) :
    OV P k N e L ⟨d, .binOp .quo t x y t', ty, ps, af, g⟩ (.int .i64 (a / b)) := fun c w ha hs => by
  have hb : b ≠ 0 := by omega
  simp [execOp, ha.ev hx, ha.ev hy, eqGuard, binOp, Op.intDiv, hb, IntWalk.i64_quo a b h]
theorem OV.quoU {t t' : Nat} {x y : Operand} {a b : Int} (hx : e.ev x = some (.int .u64 a)) (hy : e.ev y = some (.int .u64 b)) (h : 0 ≤ a ∧ a ≤ 18446744073709551615 ∧ 1 ≤ b) :
    OV P k N e L ⟨d, .binOp .quo t x y t', ty, ps, af, g⟩ (.int .u64 (a / b)) := fun c w ha hs => by
  have hb : b ≠ 0 := by omega
  simp [execOp, ha.ev hx, ha.ev hy, eqGuard, binOp, Op.intDiv, hb, IntWalk.u64_quo a b h]
theorem OV.conv {src dst : Nat} {x : Operand} {kk k' : IntKind} {n : Int} {ds : TypeDesc} [TU P src ds] [TU P dst (.int k')] (hx : e.ev x = some (.int kk n)) :
    OV P k N e L ⟨d, .convert src dst x, ty, ps, af, g⟩ (.int k' (k'.wrap n)) := fun a w ha hs => by
  simp [execOp, ha.ev hx, convert, run_und, Conv.intToInt]
theorem OV.convIU {src dst : Nat} {x : Operand} {kk : IntKind} {n : Int} {ds : TypeDesc} [TU P src ds] [TU P dst (.int .u64)] (hx : e.ev x = some (.int kk n)) (h : 0 ≤ n ∧ n ≤ 18446744073709551615) :
    OV P k N e L ⟨d, .convert src dst x, ty, ps, af, g⟩ (.int .u64 n) := by
  have := OV.conv (P := P) (k := k) (N := N) (L := L) (d := d) (ty := ty) (ps := ps) (af := af) (g := g) (src := src) (dst := dst) (k' := .u64) hx
  rwa [IntWalk.u64_in _ h] at this
theorem OV.convUI {src dst : Nat} {x : Operand} {kk : IntKind} {n : Int} {ds : TypeDesc} [TU P src ds] [TU P dst (.int .i64)] (hx : e.ev x = some (.int kk n)) (h : -9223372036854775808 ≤ n ∧ n ≤ 9223372036854775807) :
    OV P k N e L ⟨d, .convert src dst x, ty, ps, af, g⟩ (.int .i64 n) := by
  have := OV.conv (P := P) (k := k) (N := N) (L := L) (d := d) (ty := ty) (ps := ps) (af := af) (g := g) (src := src) (dst := dst) (k' := .i64) hx
  rwa [IntWalk.i64_in _ h] at this

/-! ## Equality of others -/
theorem equal_at (t : Nat) (x y : Value) : Op.equal t x y = Op.equalIn (9999 + 1) t x y := rfl
theorem run_eql {t : Nat} {x y : Operand} {u v : Value} {w : World} {b : Bool} (hi : ∀ k n, u ≠ .int k n) (hf : ∀ k n, u ≠ .float k n) (hc : ∀ k n m, u ≠ .complex k n m) (hs : ∀ s, u ≠ .string s)
    (hg : (eqGuard .eql t x y u v).run P w = .ok () w) (h : (Op.equal t u v).run P w = .ok b w) : (do eqGuard .eql t x y u v; binOp .eql t u v : Sem Value).run P w = .ok (.bool b) w := by
  have hb : binOp .eql t u v = (do pure (.bool (← Op.equal t u v))) := by
    cases u <;> cases v <;> first | rfl | (exfalso; first | exact hi _ _ rfl | exact hf _ _ rfl | exact hc _ _ _ rfl | exact hs _ rfl)
  simp only [hb, Sem.run_bind, hg, Result.andThen_ok, h, Sem.run_pure]
theorem run_neq {t : Nat} {x y : Operand} {u v : Value} {w : World} {b : Bool} (hi : ∀ k n, u ≠ .int k n) (hf : ∀ k n, u ≠ .float k n) (hc : ∀ k n m, u ≠ .complex k n m) (hs : ∀ s, u ≠ .string s)
    (hg : (eqGuard .neq t x y u v).run P w = .ok () w) (h : (Op.equal t u v).run P w = .ok b w) : (do eqGuard .neq t x y u v; binOp .neq t u v : Sem Value).run P w = .ok (.bool (!b)) w := by
  have hb : binOp .neq t u v = (do pure (.bool (!(← Op.equal t u v)))) := by
    cases u <;> cases v <;> first | rfl | (exfalso; first | exact hi _ _ rfl | exact hf _ _ rfl | exact hc _ _ _ rfl | exact hs _ rfl)
  simp only [hb, Sem.run_bind, hg, Result.andThen_ok, h, Sem.run_pure]
theorem equal_nilP {t el : Nat} {p : Option Addr} {w : World} [TU P t (.pointer el)] : (Op.equal t (.pointer p) (.pointer none)).run P w = .ok p.isNone w := by
  rw [equal_at]
  unfold Op.equalIn
  simp only [Sem.run_bind, run_und, Result.andThen_ok]
  cases p <;> rfl
theorem equal_B {t : Nat} {p q : Bool} {w : World} [TU P t .bool] : (Op.equal t (.bool p) (.bool q)).run P w = .ok (p == q) w := by
  rw [equal_at]
  unfold Op.equalIn
  simp only [Sem.run_bind, run_und, Result.andThen_ok]
  rfl
theorem OV.eqNilP {t t' el : Nat} {x y : Operand} {p : Option Addr} [TU P t (.pointer el)] (hx : e.ev x = some (.pointer p)) (hy : e.ev y = some (.pointer none)) :
    OV P k N e L ⟨d, .binOp .eql t x y t', ty, ps, af, g⟩ (.bool p.isNone) := fun a w ha hs => by
  rw [exec_bin, ha.ev hx, ha.ev hy]
  exact run_v (run_eql (by simp) (by simp) (by simp) (by simp) rfl equal_nilP)
theorem OV.neNilP {t t' el : Nat} {x y : Operand} {p : Option Addr} [TU P t (.pointer el)] (hx : e.ev x = some (.pointer p)) (hy : e.ev y = some (.pointer none)) :
    OV P k N e L ⟨d, .binOp .neq t x y t', ty, ps, af, g⟩ (.bool p.isSome) := fun a w ha hs => by
  rw [exec_bin, ha.ev hx, ha.ev hy]
  have := run_v (run_neq (P := P) (t := t) (x := x) (y := y) (u := .pointer p) (v := .pointer none) (w := w) (by simp) (by simp) (by simp) (by simp) rfl equal_nilP)
  cases p <;> exact this
theorem OV.eqB {t t' : Nat} {x y : Operand} {p q : Bool} [TU P t .bool] (hx : e.ev x = some (.bool p)) (hy : e.ev y = some (.bool q)) :
    OV P k N e L ⟨d, .binOp .eql t x y t', ty, ps, af, g⟩ (.bool (p == q)) := fun a w ha hs => by
  rw [exec_bin, ha.ev hx, ha.ev hy]
  exact run_v (run_eql (by simp) (by simp) (by simp) (by simp) rfl equal_B)
theorem OV.neB {t t' : Nat} {x y : Operand} {p q : Bool} [TU P t .bool] (hx : e.ev x = some (.bool p)) (hy : e.ev y = some (.bool q)) :
    OV P k N e L ⟨d, .binOp .neq t x y t', ty, ps, af, g⟩ (.bool (!(p == q))) := fun a w ha hs => by
  rw [exec_bin, ha.ev hx, ha.ev hy]
  exact run_v (run_neq (by simp) (by simp) (by simp) (by simp) rfl equal_B)

/-! ## Addresses -/
theorem OV.fieldAddr {s f off ft b o : Nat} {x : Operand} [h : TF P s f off ft] (hx : e.ev x = some (.pointer (some ⟨b, o, none⟩))) :
    OV P k N e L ⟨d, .fieldAddr s x f, ty, ps, af, g⟩ (.pointer (some ⟨b, o + off, none⟩)) := fun a w ha hs => by
  obtain ⟨fs, fl, h1, h2, h3, h4, i, h5, h6⟩ := h.h
  have hu := run_underlying h1 w
  subst h4
  subst h3
  simp [execOp, ha.ev hx, Instr.fieldAt, hu, h2, Instr.sureAddr, fieldPlace, sizeOf, typeInfo, h5, h6, add_lit]
theorem OV.nilCheck {x : Operand} {p : Addr} (hx : e.ev x = some (.pointer (some p))) : OV P k N e L ⟨d, .nilCheck x, ty, ps, af, g⟩ (.pointer (some p)) := fun a w ha hs => by
  simp [execOp, ha.ev hx]
theorem OV.nilCheckF {x : Operand} {f : Nat} {u c : Array Value} (hx : e.ev x = some (.func (.func f) u c)) : OV P k N e L ⟨d, .nilCheck x, ty, ps, af, g⟩ (.func (.func f) u c) := fun a w ha hs => by
  simp [execOp, ha.ev hx]
theorem OV.indexAddr {t el b o n c sz by_ : Nat} {z : Value} {x i : Operand} {kk : IntKind} {q : Int} [TU P t (.slice el)] [TI P el sz by_ z] (hx : e.ev x = some (.slice (some ⟨b, o, none⟩) n c)) (hi : e.ev i = some (.int kk q))
    (hq : 0 ≤ q ∧ q < n) : OV P k N e L ⟨d, .indexAddr t x i, ty, ps, af, g⟩ (.pointer (some ⟨b, o + q.toNat * sz, none⟩)) := fun a w ha hs => by
  simp [execOp, ha.ev hx, ha.ev hi, Instr.indexAt, asIntOf, run_und, hq, run_size, add_lit]
/-- A part of a struct by value. -/
theorem OV.field {s f off ft n by_ : Nat} {z : Value} {dd : TypeDesc} {x : Operand} {cs vs : List Value} [h : TF P s f off ft] [hd : TU P ft dd] [TI P ft n by_ z] (hx : e.ev x = some (.agg cs.toArray)) (ha' : aggD dd = true) (hv : rowAt cs off n = some vs) :
    OV P k N e L ⟨d, .field s x f, ty, ps, af, g⟩ (.agg vs.toArray) := fun a w ha hs => by
  obtain ⟨fs, fl, h1, h2, h3, h4, i, h5, h6⟩ := h.h
  have hu := run_underlying h1 w
  subst h4
  subst h3
  unfold rowAt at hv
  split at hv
  · injection hv with hv
    subst hv
    simp [execOp, ha.ev hx, Instr.field, hu, h2, asAgg, part, run_isAgg, ha', run_size]
  · cases hv
theorem OV.field1 {s f off ft : Nat} {dd : TypeDesc} {x : Operand} {cs : List Value} {v : Value} [h : TF P s f off ft] [hd : TU P ft dd] (hx : e.ev x = some (.agg cs.toArray)) (ha' : aggD dd = false) (hv : cs[off]? = some v) :
    OV P k N e L ⟨d, .field s x f, ty, ps, af, g⟩ v := fun a w ha hs => by
  obtain ⟨fs, fl, h1, h2, h3, h4, i, h5, h6⟩ := h.h
  have hu := run_underlying h1 w
  subst h4
  subst h3
  simp [execOp, ha.ev hx, Instr.field, hu, h2, asAgg, part, run_isAgg, ha', hv]

/-! ## Loads -/
theorem run_load1 {T b o : Nat} {dd : TypeDesc} [TU P T dd] (ha' : aggD dd = false) {w : World} {v : Value} (h : w.cell? ⟨b, o, none⟩ = some v) : (loadVar T ⟨b, o, none⟩).run P w = .ok v w := by
  simp [loadVar, run_isAgg, ha', h]
theorem run_loadN {T b o n by_ : Nat} {z : Value} {dd : TypeDesc} [TU P T dd] [TI P T n by_ z] (ha' : aggD dd = true) {w : World} {vs : List Value} (hn : vs.length = n) (h : ∀ j v, vs[j]? = some v → w.cell? ⟨b, o + j, none⟩ = some v) :
    (loadVar T ⟨b, o, none⟩).run P w = .ok (.agg vs.toArray) w := by
  subst hn
  have := run_loadCells_list (P := P) w ⟨b, o, none⟩ vs (fun j v hv => by rw [add_lit]; exact h j v hv)
  simp [loadVar, run_isAgg, ha', run_size, this]
theorem OV.load1 {T b o B : Nat} {dd : TypeDesc} {x : Operand} {cs : List Value} {v : Value} [TU P T dd] (hx : e.ev x = some (.pointer (some ⟨b, o, none⟩))) (ha' : aggD dd = false) [hL : CellAt L b B cs] (hv : cs[o]? = some v) :
    OV P k N e L ⟨d, .load T x, ty, ps, af, g⟩ v := fun a w ha hs => by
  have hb := hs.block hL.h
  simp [execOp, ha.ev hx, Instr.loadAt, Instr.sureAddr, run_load1 ha' (show w.cell? ⟨b, o, none⟩ = some v by rw [cell_lit hb]; simpa using hv)]
theorem rowAt_get {cs vs : List Value} {o n : Nat} (h : rowAt cs o n = some vs) : vs.length = n ∧ ∀ (j : Nat) (v : Value), vs[j]? = some v → cs[o + j]? = some v := by
  unfold rowAt at h
  split at h
  · rename_i hle
    injection h with h
    subst h
    refine ⟨by simp; omega, fun j v hv => ?_⟩
    rw [List.getElem?_take] at hv
    split at hv
    · simpa using hv
    · cases hv
  · cases h
theorem OV.loadN {T b o B n by_ : Nat} {z : Value} {dd : TypeDesc} {x : Operand} {cs vs : List Value} [TU P T dd] [TI P T n by_ z] (hx : e.ev x = some (.pointer (some ⟨b, o, none⟩))) (ha' : aggD dd = true) [hL : CellAt L b B cs] (hv : rowAt cs o n = some vs) :
    OV P k N e L ⟨d, .load T x, ty, ps, af, g⟩ (.agg vs.toArray) := fun a w ha hs => by
  have hb := hs.block hL.h
  obtain ⟨h1, h2⟩ := rowAt_get hv
  simp [execOp, ha.ev hx, Instr.loadAt, Instr.sureAddr, run_loadN ha' h1 (fun j v hv => show w.cell? ⟨b, o + j, none⟩ = some v by rw [cell_lit hb]; simpa using h2 j v hv)]
/-- Memory that was there at first. -/
theorem Sat.old_cell {w : World} (hs : Sat k w L) [hL : OldAt L k] {p : Addr} {v : Value} (h : k.cell? p = some v) : w.cell? p = some v := by
  obtain ⟨R, hs'⟩ := hs.at hL.h
  have hb := hs'.old_block (World.block_lt_of_cell? k p h)
  rw [← h]
  exact World.cell?_of_block hb
theorem OV.loadK1 {T b o : Nat} {dd : TypeDesc} {x : Operand} {v : Value} [TU P T dd] (hx : e.ev x = some (.pointer (some ⟨b, o, none⟩))) (ha' : aggD dd = false) [hL : OldAt L k] (hv : k.cell? ⟨b, o, none⟩ = some v) :
    OV P k N e L ⟨d, .load T x, ty, ps, af, g⟩ v := fun a w ha hs => by
  simp [execOp, ha.ev hx, Instr.loadAt, Instr.sureAddr, run_load1 ha' (hs.old_cell hv)]
theorem OV.loadKN {T b o n by_ : Nat} {z : Value} {dd : TypeDesc} {x : Operand} {vs : List Value} [TU P T dd] [TI P T n by_ z] (hx : e.ev x = some (.pointer (some ⟨b, o, none⟩))) (ha' : aggD dd = true) [hL : OldAt L k] (hn : vs.length = n)
    (hv : ∀ j v, vs[j]? = some v → k.cell? ⟨b, o + j, none⟩ = some v) : OV P k N e L ⟨d, .load T x, ty, ps, af, g⟩ (.agg vs.toArray) := fun a w ha hs => by
  simp [execOp, ha.ev hx, Instr.loadAt, Instr.sureAddr, run_loadN ha' hn (fun j v h => hs.old_cell (hv j v h))]

/-! ## Builtins that only look -/
theorem OV.lenS {t el n c : Nat} {x : Operand} {p : Option Addr} [TU P t (.slice el)] (hx : e.ev x = some (.slice p n c)) :
    OV P k N e L ⟨d, .call { callee := .builtin .len, args := #[x], argTypes := #[t] }, ty, ps, af, g⟩ (.int .i64 n) := fun a w ha hs => by
  simp [execOp, ha.ev hx, resolve, invoke, builtin, Builtin.len_, run_und, goInt]
theorem OV.capS {t el n c : Nat} {x : Operand} {p : Option Addr} [TU P t (.slice el)] (hx : e.ev x = some (.slice p n c)) :
    OV P k N e L ⟨d, .call { callee := .builtin .cap, args := #[x], argTypes := #[t] }, ty, ps, af, g⟩ (.int .i64 c) := fun a w ha hs => by
  simp [execOp, ha.ev hx, resolve, invoke, builtin, Builtin.cap_, run_und, goInt]
theorem OV.minI {t t' : Nat} {x y : Operand} {kk : IntKind} {p q : Int} (hx : e.ev x = some (.int kk p)) (hy : e.ev y = some (.int kk q)) :
    OV P k N e L ⟨d, .call { callee := .builtin .min, args := #[x, y], argTypes := #[t, t'] }, ty, ps, af, g⟩ (.int kk (min p q)) := fun a w ha hs => by
  have : (if q < p then q else p) = min p q := by rw [Int.min_def]; split <;> split <;> omega
  simp [execOp, ha.ev hx, ha.ev hy, resolve, invoke, builtin, Builtin.min_, Builtin.min2, this]
theorem OV.maxI {t t' : Nat} {x y : Operand} {kk : IntKind} {p q : Int} (hx : e.ev x = some (.int kk p)) (hy : e.ev y = some (.int kk q)) :
    OV P k N e L ⟨d, .call { callee := .builtin .max, args := #[x, y], argTypes := #[t, t'] }, ty, ps, af, g⟩ (.int kk (max p q)) := fun a w ha hs => by
  have : (if q > p then q else p) = max p q := by rw [Int.max_def]; split <;> split <;> omega
  simp [execOp, ha.ev hx, ha.ev hy, resolve, invoke, builtin, Builtin.max_, Builtin.max2, this]

theorem OV.makeFunc {fn : Fn} {xs ys : List Operand} {us vs : List Value} (hx : e.evs xs = some us) (hy : e.evs ys = some vs) :
    OV P k N e L ⟨d, .makeFunc fn xs.toArray ys.toArray, ty, ps, af, g⟩ (.func fn us.toArray vs.toArray) := fun a w ha hs => by
  have h1 := ha.evs hx
  have h2 := ha.evs hy
  simp [execOp, Instr.makeFunc, h1, h2]
end
end Go.Proofs.Ytkmjldihlgchdaa.M
