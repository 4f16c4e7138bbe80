/- Small forms of the steps, for scripts. -/
import Derived.Test.YtkmjldihlgchdaaL5
set_option linter.unusedVariables false
set_option linter.unusedSimpArgs false
namespace Go.Proofs.Ytkmjldihlgchdaa.M
section
variable {P : Program} {k : World} {N : Nat} {ops : Array Oper} {Q : Exit → Act → World → Prop} {o : Oper} {rest : List Oper} {e : Env} {L : List HP} {c : Code}
theorem WL.valY {j u : Nat} {b : Bool} {v : Value} {t : Nat} (hg : o.guard = some (j, b)) (hj : (ops[j]?).bind (·.dst) = some u) (hu : e.get u = some (.bool b)) (hd : o.dst = some t) (ht : Nat.blt t N = true) (hv : OV P k N e L o v) (h : WL P k N ops Q rest ((t, v) :: e) L) :
    WL P k N ops Q (o :: rest) e L := WL.doesYes hg hj hu (WOX.val hd ht hv h)
theorem WL.valN {j u : Nat} {b b' : Bool} {t : Nat} (hg : o.guard = some (j, b)) (hj : (ops[j]?).bind (·.dst) = some u) (hu : e.get u = some (.bool b')) (hb : (b' == b) = false) (hd : o.dst = some t) (ht : Nat.blt t N = true) (h : WL P k N ops Q rest ((t, undef) :: e) L) :
    WL P k N ops Q (o :: rest) e L := WL.no hg hj hu hb (fun t' h' => by rw [hd] at h'; injection h' with h'; exact h' ▸ ht) (by rw [hd]; exact h)
theorem Agr.again {a : Act} {t : Nat} {v : Value} (ha : Agr N a e) (h : e.get t = some v) : Agr N a ((t, v) :: e) := ha.sub (Env.Sub.cons h (Env.Sub.refl e))
/-- A guard that is not known yet: both ways. -/
theorem WL.split {j u : Nat} {b g : Bool} (hg : o.guard = some (j, b)) (hj : (ops[j]?).bind (·.dst) = some u) (hu : e.get u = some (.bool g))
    (h1 : g = true → WL P k N ops Q (o :: rest) ((u, .bool true) :: e) L) (h2 : g = false → WL P k N ops Q (o :: rest) ((u, .bool false) :: e) L) : WL P k N ops Q (o :: rest) e L := by
  intro a w ha hs
  cases g with
  | true => exact h1 rfl a w (ha.again hu) hs
  | false => exact h2 rfl a w (ha.again hu) hs
theorem WD.valY {j u : Nat} {b : Bool} {v : Value} {t : Nat} (hg : o.guard = some (j, b)) (hj : (ops[j]?).bind (·.dst) = some u) (hu : e.get u = some (.bool b)) (hd : o.dst = some t) (ht : Nat.blt t N = true) (hv : OV P k N e L o v) (h : WD P k N ops Q rest ((t, v) :: e) L) :
    WD P k N ops Q (o :: rest) e L := by
  intro a ha
  unfold wpQuiet
  rw [if_pos (by simp [Region.wanted, hg, yielded_of ha hj hu])]
  refine ⟨v, fun w hs => ?_, ?_⟩
  · unfold Oper.quietAt
    rw [hv a w ha hs]
    exact ⟨rfl, rfl⟩
  · rw [hd]
    exact h _ (ha.put t v ht)
theorem WD.valN {j u : Nat} {b b' : Bool} {t : Nat} (hg : o.guard = some (j, b)) (hj : (ops[j]?).bind (·.dst) = some u) (hu : e.get u = some (.bool b')) (hb : (b' == b) = false) (hd : o.dst = some t) (ht : Nat.blt t N = true) (h : WD P k N ops Q rest ((t, undef) :: e) L) :
    WD P k N ops Q (o :: rest) e L := by
  intro a ha
  unfold wpQuiet
  rw [if_neg (by
    have hy := yielded_of ha hj hu
    simp only [Region.wanted, hg, hy]
    cases b <;> cases b' <;> simp_all), hd]
  exact h _ (ha.put t undef ht)
theorem WD.split {j u : Nat} {b g : Bool} (hg : o.guard = some (j, b)) (hj : (ops[j]?).bind (·.dst) = some u) (hu : e.get u = some (.bool g))
    (h1 : g = true → WD P k N ops Q (o :: rest) ((u, .bool true) :: e) L) (h2 : g = false → WD P k N ops Q (o :: rest) ((u, .bool false) :: e) L) : WD P k N ops Q (o :: rest) e L := by
  intro a ha
  cases g with
  | true => exact h1 rfl a (ha.again hu)
  | false => exact h2 rfl a (ha.again hu)
theorem WN.split {Ls : List HP} {need : Nat → Bool} {fuel : Nat} {listed : Array Bool} {g : Bool} (u : Nat) (hu : e.get u = some (.bool g))
    (h1 : g = true → WN P k N ops Q Ls need fuel listed ((u, .bool true) :: e) L) (h2 : g = false → WN P k N ops Q Ls need fuel listed ((u, .bool false) :: e) L) : WN P k N ops Q Ls need fuel listed e L := by
  intro a w ha hs
  cases g with
  | true => exact h1 rfl a w (ha.again hu) hs
  | false => exact h2 rfl a w (ha.again hu) hs
/-- Conditions that are known. -/
theorem WC.condT {d : Code} {x : Operand} (hx : e.ev x = some (.bool true)) (h : WC P k N c Q e L) : WC P k N (.cond x c d) Q e L := WC.cond hx (fun _ => h) (fun h => by cases h)
theorem WC.condF {d : Code} {x : Operand} (hx : e.ev x = some (.bool false)) (h : WC P k N d Q e L) : WC P k N (.cond x c d) Q e L := WC.cond hx (fun h => by cases h) (fun _ => h)

theorem OV.pickT {d : Option Nat} {ty : Nat} {ps : String} {af : Array Edge} {g : Option (Nat × Bool)} {c x y : Operand} {u : Value} (hc : e.ev c = some (.bool true)) (hx : e.ev x = some u) :
    OV P k N e L ⟨d, .pick c x y, ty, ps, af, g⟩ u := fun a w ha hs => by simp [execOp, ha.ev hc, ha.ev hx, asBool]
theorem OV.pickF {d : Option Nat} {ty : Nat} {ps : String} {af : Array Edge} {g : Option (Nat × Bool)} {c x y : Operand} {u : Value} (hc : e.ev c = some (.bool false)) (hx : e.ev y = some u) :
    OV P k N e L ⟨d, .pick c x y, ty, ps, af, g⟩ u := fun a w ha hs => by simp [execOp, ha.ev hc, ha.ev hx, asBool]
theorem OV.shl1 {d : Option Nat} {ty : Nat} {ps : String} {af : Array Edge} {g : Option (Nat × Bool)} {t t' : Nat} {x : Operand} {a : Int}
    (hx : e.ev x = some (.int .i64 a)) (h : 0 ≤ a ∧ a ≤ 4611686018427387903) : OV P k N e L ⟨d, .binOp .shl t x (.const (.int .u64 1)) t', ty, ps, af, g⟩ (.int .i64 (a * 2)) := fun c w ha hs => by
  have h1 : c.eval (.const (.int .u64 1)) = .int .u64 1 := rfl
  have h2 : IntKind.i64.wrap (a * 2) = a * 2 := IntWalk.i64_in _ (by omega)
  rw [exec_bin, ha.ev hx, h1]
  refine run_v ?_
  simp [eqGuard, binOp, Op.shift, IntKind.bits, h2]
/-! ### The beginning and the end of a call -/
/-- The parameters in the first slots. -/
def Env.ofArgs : Nat → List Value → Env
  | _, [] => []
  | n, v :: vs => (n, v) :: Env.ofArgs (n + 1) vs
theorem Env.ofArgs_get : ∀ (n : Nat) (vs : List Value) (t : Nat) (v : Value), (Env.ofArgs n vs).get t = some v → n ≤ t ∧ vs[t - n]? = some v
  | n, [], t, v, h => by cases h
  | n, u :: vs, t, v, h => by
    rw [Env.ofArgs, Env.get_cons] at h
    by_cases c : n = t
    · subst c; rw [if_pos rfl] at h; simp; simpa using h
    · rw [if_neg c] at h
      obtain ⟨h1, h2⟩ := Env.ofArgs_get (n + 1) vs t v h
      refine ⟨by omega, ?_⟩
      rw [show t - n = (t - (n + 1)) + 1 by omega, List.getElem?_cons_succ]
      exact h2
theorem calls_start {f : Nat} {fn : Func} {args : List Value} {R : Ending → World → Prop} {w : World} (hf : P.funcs[f]? = some fn) (hb : fn.body = some c) (hN : fn.ntmps = N) (hle : Nat.ble args.length N = true)
    (hs : Sat k w L) (h : WC P k N c (bodyPost P fn R) (Env.ofArgs 0 args) L) : Calls P f args.toArray w R := by
  refine calls_of_wp hf hb (h _ w ⟨rfl, ?_, ?_⟩ hs)
  · have : args.length ≤ N := by simpa using hle
    simp [hN]; omega
  · intro t v ht
    obtain ⟨_, h2⟩ := Env.ofArgs_get 0 args t v ht
    have hl : t < args.length := by
      rcases Nat.lt_or_ge t args.length with h | h
      · exact h
      · rw [List.getElem?_eq_none (by omega)] at h2; cases h2
    simp only [Nat.sub_zero] at h2
    rw [Array.getElem?_append_left (by simpa using hl)]
    simpa using h2
theorem WQ.ret0 {fn : Func} {R : Ending → World → Prop} (hr : fn.results = #[]) (h : ∀ w, Sat k w L → R (.returned (.tuple #[])) w) : WQ k N (bodyPost P fn R) .ret e L :=
  fun a w ha hs => ⟨ha.defers, _, results_none hr _ _ _, h w hs⟩
theorem WQ.end0 {fn : Func} {R : Ending → World → Prop} (hr : fn.results = #[]) (h : ∀ w, Sat k w L → R (.returned (.tuple #[])) w) : WQ k N (bodyPost P fn R) .normal e L :=
  fun a w ha hs => ⟨ha.defers, _, results_none hr _ _ _, h w hs⟩
theorem getD_at {a : Act} {t : Nat} {v : Value} (ha : Agr N a e) (h : e.get t = some v) : a.tmps.getD t undef = v := by
  simp [Array.getD_eq_getD_getElem?, ha.at_ t v h]
theorem WQ.ret1 {fn : Func} {R : Ending → World → Prop} {t : Nat} {v : Value} (hr : fn.results = #[.tmp t]) (ht : e.get t = some v) (h : ∀ w, Sat k w L → R (.returned v) w) : WQ k N (bodyPost P fn R) .ret e L :=
  fun a w ha hs => ⟨ha.defers, v, by rw [results_tmp hr, getD_at ha ht], h w hs⟩
theorem WQ.ret2 {fn : Func} {R : Ending → World → Prop} {t u : Nat} {v x : Value} (hr : fn.results = #[.tmp t, .tmp u]) (ht : e.get t = some v) (hu : e.get u = some x) (h : ∀ w, Sat k w L → R (.returned (.tuple #[v, x])) w) : WQ k N (bodyPost P fn R) .ret e L :=
  fun a w ha hs => ⟨ha.defers, _, by rw [results_tmp2 hr, getD_at ha ht, getD_at ha hu], h w hs⟩
theorem WQ.ret3 {fn : Func} {R : Ending → World → Prop} {t u s : Nat} {v x y : Value} (hr : fn.results = #[.tmp t, .tmp u, .tmp s]) (ht : e.get t = some v) (hu : e.get u = some x) (hs' : e.get s = some y) (h : ∀ w, Sat k w L → R (.returned (.tuple #[v, x, y])) w) : WQ k N (bodyPost P fn R) .ret e L :=
  fun a w ha hs => ⟨ha.defers, _, by simp [results, hr, ha.at_ t v ht, ha.at_ u x hu, ha.at_ s y hs'], h w hs⟩
/-- A struct that is handed back lies in a cell. -/
theorem WQ.retC {fn : Func} {R : Ending → World → Prop} {t T b B n by_ : Nat} {z : Value} {dd : TypeDesc} {cs : List Value} [TU P T dd] [TI P T n by_ z] (hr : fn.results = #[.cell t T]) (ht : e.get t = some (.pointer (some ⟨b, 0, none⟩))) (ha' : aggD dd = true) [hL : CellAt L b B cs] (hn : cs.length = n)
    (h : ∀ w, Sat k w L → R (.returned (.agg cs.toArray)) w) : WQ k N (bodyPost P fn R) .ret e L :=
  fun a w ha hs => by
    have hb := hs.block hL.h
    have hl := run_loadN (P := P) (T := T) (b := b) (o := 0) ha' hn (w := w) (fun j v hv => by rw [cell_lit hb]; simpa using hv)
    exact ⟨ha.defers, _, by simp [results, hr, ha.at_ t _ ht, asAddr, hl], h w hs⟩
end
end Go.Proofs.Ytkmjldihlgchdaa.M
