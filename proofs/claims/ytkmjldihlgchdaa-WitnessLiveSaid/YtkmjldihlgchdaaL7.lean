/- Drawn regions that write: the steps as scripts take them. -/
import Derived.Test.YtkmjldihlgchdaaL6
set_option linter.unusedVariables false
set_option linter.unusedSimpArgs false
namespace Go.Proofs.Ytkmjldihlgchdaa.M
def nth : List Oper → Nat → Option Oper
  | [], _ => none
  | o :: _, 0 => some o
  | _ :: l, n + 1 => nth l n
theorem nth_eq : ∀ (l : List Oper) (n : Nat), nth l n = l.toArray[n]?
  | [], n => by simp [nth]
  | o :: l, 0 => by simp [nth]
  | o :: l, n + 1 => by
    have := nth_eq l n
    simp only [List.getElem?_toArray] at this ⊢
    simpa [nth] using this
/-- It writes nothing, makes nothing, grows nothing. -/
def isEff (o : Oper) : Bool := match o.op with
  | .store .. | .alloc .. | .box .. | .buildSlice .. | .makeMap .. | .makeSlice .. | .mapUpdate .. | .insert .. => true
  | .call c => match c.callee with
    | .builtin .append | .builtin .clear | .builtin .copy | .builtin .delete => true
    | _ => false
  | _ => false
def noEff : List Oper → Bool
  | [] => true
  | o :: l => if isEff o then false else noEff l
def notBool : Value → Bool
  | .bool _ => false
  | _ => true
theorem noneed {need : Nat → Bool} {i : Nat} {p : Prop} (h : need i = false) : need i = true → p := fun h' => by rw [h] at h'; cases h'
section
variable {P : Program} {k : World} {N : Nat} {l : List Oper} {Q : Exit → Act → World → Prop} {o : Oper} {rest : List Oper} {ops : Array Oper} {e : Env} {L Ls : List HP} {need : Nat → Bool} {fuel : Nat} {listed : Array Bool} {i t : Nat}
theorem yielded_none {a : Act} (ha : Agr N a e) {j u : Nat} {v : Value} (hj : (ops[j]?).bind (·.dst) = some u) (hu : e.get u = some v) (hb : notBool v = true) : yielded ops a.tmps j = none := by
  unfold yielded
  rw [hj, Option.bind_some, ha.at_ u v hu]
  cases v <;> first | rfl | (simp [notBool] at hb)
/-- The guard itself was not asked. -/
theorem WL.valU {j u : Nat} {b : Bool} {v : Value} (hg : o.guard = some (j, b)) (hj : (ops[j]?).bind (·.dst) = some u) (hu : e.get u = some v) (hb : notBool v = true) (hd : o.dst = some t) (ht : Nat.blt t N = true) (h : WL P k N ops Q rest ((t, undef) :: e) L) :
    WL P k N ops Q (o :: rest) e L := by
  intro a w ha hs
  unfold wpList
  rw [if_neg (by simp [Region.wanted, hg, yielded_none ha hj hu hb]), hd]
  exact h _ w (ha.put t undef ht) hs
theorem WD.valU {j u : Nat} {b : Bool} {v : Value} (hg : o.guard = some (j, b)) (hj : (ops[j]?).bind (·.dst) = some u) (hu : e.get u = some v) (hb : notBool v = true) (hd : o.dst = some t) (ht : Nat.blt t N = true) (h : WD P k N ops Q rest ((t, undef) :: e) L) :
    WD P k N ops Q (o :: rest) e L := by
  intro a ha
  unfold wpQuiet
  rw [if_neg (by simp [Region.wanted, hg, yielded_none ha hj hu hb]), hd]
  exact h _ (ha.put t undef ht)
theorem WC.drawnQ {id : Nat} (hq : noEff l = true) (hm : P.follows .mixedOrders = true) (hB : Region.lexB .any l.toArray = true) (h : WD P k N l.toArray Q l e L) : WC P k N (.region id l.toArray true) Q e L := WC.drawn hm hB h
theorem WC.netL {id : Nat} (qs : List Nat) (hm : P.follows .mixedOrders = true)
    (h : WN P k N l.toArray Q L (needOf l.toArray qs) l.length (Array.replicate l.length false) e L) : WC P k N (.region id l.toArray true) Q e L := WC.net qs L hm (by simpa using h)
theorem WC.netS {id : Nat} (qs : List Nat) (Ls : List HP) (hm : P.follows .mixedOrders = true)
    (h : WN P k N l.toArray Q Ls (needOf l.toArray qs) l.length (Array.replicate l.length false) e L) : WC P k N (.region id l.toArray true) Q e L := WC.net qs Ls hm (by simpa using h)
theorem WN.tk (i : Nat) {v : Value} (hi : nth l i = some o) (hd : o.dst = some t) (ht : Nat.blt t N = true) (hs : Region.noSelect l.toArray = true) (hc : canTake l.toArray need listed i = true) (hg : o.guard = none) (hL : ∀ w, Sat k w L → Sat k w Ls)
    (hv : OV P k N e Ls o v) (h : WN P k N l.toArray Q Ls need fuel (listed.setIfInBounds i true) ((t, v) :: e) L) : WN P k N l.toArray Q Ls need (fuel + 1) listed e L :=
  WN.take i (by rw [← nth_eq]; exact hi) hd ht hs hc rfl hL hg hv h
theorem WN.tkP (i : Nat) {v : Value} (hi : nth l i = some o) (hd : o.dst = some t) (ht : Nat.blt t N = true) (hs : Region.noSelect l.toArray = true) (hc : canTakeP l.toArray need listed i = true) (hg : o.guard = none)
    (hv : ∀ k, OV P k N e [] o v) (h : WN P k N l.toArray Q Ls need fuel (listed.setIfInBounds i true) ((t, v) :: e) L) : WN P k N l.toArray Q Ls need (fuel + 1) listed e L :=
  WN.takeP i (by rw [← nth_eq]; exact hi) hd ht hs hc hg hv h
theorem WN.tkPY (i : Nat) {j u : Nat} {b : Bool} {v : Value} (hi : nth l i = some o) (hd : o.dst = some t) (ht : Nat.blt t N = true) (hs : Region.noSelect l.toArray = true) (hc : canTakeP l.toArray need listed i = true) (hg : o.guard = some (j, b)) (hj : (nth l j).bind (·.dst) = some u) (hu : e.get u = some (.bool b))
    (hv : ∀ k, OV P k N e [] o v) (h : WN P k N l.toArray Q Ls need fuel (listed.setIfInBounds i true) ((t, v) :: e) L) : WN P k N l.toArray Q Ls need (fuel + 1) listed e L :=
  WN.takePY i (by rw [← nth_eq]; exact hi) hd ht hs hc hg (by rw [← nth_eq]; exact hj) hu hv h
theorem WN.tkY (i : Nat) {j u : Nat} {b : Bool} {v : Value} (hi : nth l i = some o) (hd : o.dst = some t) (ht : Nat.blt t N = true) (hs : Region.noSelect l.toArray = true) (hc : canTake l.toArray need listed i = true) (hg : o.guard = some (j, b)) (hj : (nth l j).bind (·.dst) = some u) (hu : e.get u = some (.bool b)) (hL : ∀ w, Sat k w L → Sat k w Ls)
    (hv : OV P k N e Ls o v) (h : WN P k N l.toArray Q Ls need fuel (listed.setIfInBounds i true) ((t, v) :: e) L) : WN P k N l.toArray Q Ls need (fuel + 1) listed e L :=
  WN.takeYes i (by rw [← nth_eq]; exact hi) hd ht hs hc rfl hL hg (by rw [← nth_eq]; exact hj) hu hv h
theorem WN.tkN (i : Nat) {j u : Nat} {b b' : Bool} (hi : nth l i = some o) (hd : o.dst = some t) (ht : Nat.blt t N = true) (hs : Region.noSelect l.toArray = true) (hc : canTake l.toArray need listed i = true) (hg : o.guard = some (j, b)) (hj : (nth l j).bind (·.dst) = some u) (hu : e.get u = some (.bool b')) (hb : (b' == b) = false) (hL : ∀ w, Sat k w L → Sat k w Ls)
    (h : WN P k N l.toArray Q Ls need fuel (listed.setIfInBounds i true) ((t, undef) :: e) L) : WN P k N l.toArray Q Ls need (fuel + 1) listed e L :=
  WN.takeNo i (by rw [← nth_eq]; exact hi) hd ht hs hc rfl hL hg (by rw [← nth_eq]; exact hj) hu hb h
theorem WN.tkU (i : Nat) {j u : Nat} {b : Bool} {v : Value} (hi : nth l i = some o) (hd : o.dst = some t) (ht : Nat.blt t N = true) (hs : Region.noSelect l.toArray = true) (hc : canTake l.toArray need listed i = true) (hg : o.guard = some (j, b)) (hj : (nth l j).bind (·.dst) = some u) (hu : e.get u = some v) (hb : notBool v = true) (hL : ∀ w, Sat k w L → Sat k w Ls)
    (h : WN P k N l.toArray Q Ls need fuel (listed.setIfInBounds i true) ((t, undef) :: e) L) : WN P k N l.toArray Q Ls need (fuel + 1) listed e L := by
  intro a w ha hs'
  rw [nth_eq] at hi hj
  obtain ⟨c1, c2⟩ := canTake_spec hi hc
  refine wpAnyN_first hi (Region.noSelect_spec hs) (fun _ _ _ h => h) fuel listed a w c2 c1 (.inr ⟨by simp [Region.wanted, hg, yielded_none ha hj hu hb], rfl⟩) (hL w hs') ?_
  rw [hd]
  exact h _ w (ha.put t undef ht) hs'
theorem WN.do1 (i : Nat) (hi : nth l i = some o) (hr : Region.ready .any l.toArray listed = [i]) (hg : o.guard = none)
    (h : WOX P k N (NP Q) o (fun e' L' => (need i = true → ∀ w, Sat k w L' → Sat k w Ls) ∧ WN P k N l.toArray Q Ls need fuel (listed.setIfInBounds i true) e' L') e L) : WN P k N l.toArray Q Ls need (fuel + 1) listed e L :=
  WN.one i hr (WX.does (by rw [← nth_eq]; exact hi) hg rfl h)
theorem WN.do1Y (i : Nat) {j u : Nat} {b : Bool} (hi : nth l i = some o) (hr : Region.ready .any l.toArray listed = [i]) (hg : o.guard = some (j, b)) (hj : (nth l j).bind (·.dst) = some u) (hu : e.get u = some (.bool b))
    (h : WOX P k N (NP Q) o (fun e' L' => (need i = true → ∀ w, Sat k w L' → Sat k w Ls) ∧ WN P k N l.toArray Q Ls need fuel (listed.setIfInBounds i true) e' L') e L) : WN P k N l.toArray Q Ls need (fuel + 1) listed e L :=
  WN.one i hr (WX.doesYes (by rw [← nth_eq]; exact hi) hg (by rw [← nth_eq]; exact hj) hu rfl h)
theorem WN.do1N (i : Nat) {j u : Nat} {b b' : Bool} (hi : nth l i = some o) (hd : o.dst = some t) (ht : Nat.blt t N = true) (hr : Region.ready .any l.toArray listed = [i]) (hg : o.guard = some (j, b)) (hj : (nth l j).bind (·.dst) = some u) (hu : e.get u = some (.bool b')) (hb : (b' == b) = false)
    (hS : need i = true → ∀ w, Sat k w L → Sat k w Ls) (h : WN P k N l.toArray Q Ls need fuel (listed.setIfInBounds i true) ((t, undef) :: e) L) : WN P k N l.toArray Q Ls need (fuel + 1) listed e L :=
  WN.one i hr (WX.no (by rw [← nth_eq]; exact hi) hg (by rw [← nth_eq]; exact hj) hu hb (fun t' h' => by rw [hd] at h'; injection h' with h'; exact h' ▸ ht) rfl hS (by rw [hd]; exact h))
theorem WN.do2 (i j : Nat) {o' : Oper} (hi : nth l i = some o) (hj : nth l j = some o') (hr : Region.ready .any l.toArray listed = [i, j]) (hg : o.guard = none) (hg' : o'.guard = none)
    (h : WOX P k N (NP Q) o (fun e' L' => (need i = true → ∀ w, Sat k w L' → Sat k w Ls) ∧ WN P k N l.toArray Q Ls need fuel (listed.setIfInBounds i true) e' L') e L)
    (h' : WOX P k N (NP Q) o' (fun e' L' => (need j = true → ∀ w, Sat k w L' → Sat k w Ls) ∧ WN P k N l.toArray Q Ls need fuel (listed.setIfInBounds j true) e' L') e L) : WN P k N l.toArray Q Ls need (fuel + 1) listed e L :=
  WN.two i j hr (WX.does (by rw [← nth_eq]; exact hi) hg rfl h) (WX.does (by rw [← nth_eq]; exact hj) hg' rfl h')
end
end Go.Proofs.Ytkmjldihlgchdaa.M
