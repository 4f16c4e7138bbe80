/- Shifts by a constant; a string's byte; conversions to u8; bits.Len's needs. -/
import Derived.Test.YtkmjldihlgchdaaL10
set_option linter.unusedVariables false
set_option linter.unusedSimpArgs false
namespace Go.Proofs.Ytkmjldihlgchdaa.M
section
variable {P : Program} {k : World} {N : Nat} {Q : Exit → Act → World → Prop} {next : Env → List HP → Prop} {e : Env} {L : List HP} {d : Option Nat} {ty : Nat} {ps : String} {af : Array Edge} {g : Option (Nat × Bool)} {t : Nat}
theorem OV.shr (n : Nat) {t t' : Nat} {x : Operand} {kk yk : IntKind} {a : Int} {y : Int} (hx : e.ev x = some (.int kk a)) (hy : y = (n : Int)) (hn : Nat.ble n kk.bits = true) :
    OV P k N e L ⟨d, .binOp .shr t x (.const (.int yk y)) t', ty, ps, af, g⟩ (.int kk (a / 2 ^ n)) := fun c w ha hs => by
  subst hy
  have h1 : c.eval (.const (.int yk (n : Int))) = .int yk n := rfl
  have hn' : n ≤ kk.bits := by simpa using hn
  have h2 : a.fdiv (2 ^ n) = a / 2 ^ n := Int.fdiv_eq_ediv_of_nonneg _ (by exact Int.pow_nonneg (by omega))
  rw [exec_bin, ha.ev hx, h1]
  refine run_v ?_
  have h0 : ¬ ((n : Int) < 0) := by omega
  simp only [eqGuard, binOp, Op.shift, h0, if_false, Int.toNat_natCast, Nat.min_eq_left hn', h2]
  simp
theorem OV.indexStr {t : Nat} {x i : Operand} {s : ByteArray} {kk : IntKind} {q : Int} [TU P t .string] (hx : e.ev x = some (.string s)) (hi : e.ev i = some (.int kk q)) (hq : 0 ≤ q ∧ q < s.size) :
    OV P k N e L ⟨d, .index t x i, ty, ps, af, g⟩ (.int .u8 (s[q.toNat]'(by omega)).toNat) := fun a w ha hs => by
  have h1 : s[q.toNat]? = some (s[q.toNat]'(by omega)) := by
    rw [getElem?_pos]
  simp [execOp, ha.ev hx, ha.ev hi, Instr.index, asIntOf, run_und, hq.1, h1]
theorem WOX.byteAt {T : Nat} {x i : Operand} {s : ByteArray} {kk : IntKind} {q : Int} [TU P T .string] (hx : e.ev x = some (.string s)) (hi : e.ev i = some (.int kk q)) (ht : Nat.blt t N = true) (hs : Nat.ble 256 s.size = true) (hq : 0 ≤ q ∧ q ≤ 255)
    (h : ∀ b : Int, 0 ≤ b → b ≤ 255 → next ((t, .int .u8 b) :: e) L) : WOX P k N Q ⟨some t, .index T x i, ty, ps, af, g⟩ next e L := by
  have hs' : 256 ≤ s.size := by simpa using hs
  have h1 : 0 ≤ q ∧ q < s.size := by omega
  have h2 := (s[q.toNat]'(by omega)).toNat_lt
  exact WOX.val rfl ht (OV.indexStr hx hi h1) (h _ (by omega) (by omega))
theorem OV.conv8 {src dst : Nat} {x : Operand} {kk : IntKind} {n : Int} {ds : TypeDesc} [TU P src ds] [TU P dst (.int .u8)] (hx : e.ev x = some (.int kk n)) (h : 0 ≤ n ∧ n ≤ 255) :
    OV P k N e L ⟨d, .convert src dst x, ty, ps, af, g⟩ (.int .u8 n) := by
  have := OV.conv (P := P) (k := k) (N := N) (L := L) (d := d) (ty := ty) (ps := ps) (af := af) (g := g) (src := src) (dst := dst) (k' := .u8) hx
  rwa [IntWalk.u8_in _ h] at this
theorem OV.conv32 {src dst : Nat} {x : Operand} {kk : IntKind} {n : Int} {ds : TypeDesc} [TU P src ds] [TU P dst (.int .u32)] (hx : e.ev x = some (.int kk n)) (h : 0 ≤ n ∧ n ≤ 4294967295) :
    OV P k N e L ⟨d, .convert src dst x, ty, ps, af, g⟩ (.int .u32 n) := by
  have := OV.conv (P := P) (k := k) (N := N) (L := L) (d := d) (ty := ty) (ps := ps) (af := af) (g := g) (src := src) (dst := dst) (k' := .u32) hx
  rwa [IntWalk.u32_in _ h] at this
/-- A call that turns the chunks. -/
theorem WOX.gives {F : Nat} {xs : List Operand} {vs : List Value} {ts : Array Nat} {v : Value} {L' : List HP} [hF : CF P F] (hx : e.evs xs = some vs) (ht : Nat.blt t N = true)
    (spec : ∀ w, Sat k w L → Calls P F vs.toArray w fun x w' => x = .returned v ∧ Sat k w' L') (h : next ((t, v) :: e) L') :
    WOX P k N Q ⟨some t, .call { callee := .value (.func F), args := xs.toArray, argTypes := ts }, ty, ps, af, g⟩ next e L :=
  WOX.fn hx ht spec fun x w' ⟨a, c⟩ => ⟨v, L', a, c, h⟩
theorem WOX.gives0 {F : Nat} {xs : List Operand} {vs : List Value} {ts : Array Nat} {v : Value} {L' : List HP} [hF : CF P F] (hx : e.evs xs = some vs)
    (spec : ∀ w, Sat k w L → Calls P F vs.toArray w fun x w' => x = .returned v ∧ Sat k w' L') (h : next e L') :
    WOX P k N Q ⟨none, .call { callee := .value (.func F), args := xs.toArray, argTypes := ts }, ty, ps, af, g⟩ next e L :=
  WOX.fn0 hx spec fun x w' ⟨a, c⟩ => ⟨v, L', a, c, h⟩
/-- The same, some data left open. -/
theorem WOX.givesE {Y : Type} {F : Nat} {xs : List Operand} {vs : List Value} {ts : Array Nat} {p : Y → Prop} {v : Y → Value} {L' : Y → List HP} [hF : CF P F] (hx : e.evs xs = some vs) (ht : Nat.blt t N = true)
    (spec : ∀ w, Sat k w L → Calls P F vs.toArray w fun x w' => ∃ y, p y ∧ x = .returned (v y) ∧ Sat k w' (L' y)) (h : ∀ y, p y → next ((t, v y) :: e) (L' y)) :
    WOX P k N Q ⟨some t, .call { callee := .value (.func F), args := xs.toArray, argTypes := ts }, ty, ps, af, g⟩ next e L :=
  WOX.fn hx ht spec fun x w' ⟨y, b, a, c⟩ => ⟨v y, L' y, a, c, h y b⟩
end
end Go.Proofs.Ytkmjldihlgchdaa.M
