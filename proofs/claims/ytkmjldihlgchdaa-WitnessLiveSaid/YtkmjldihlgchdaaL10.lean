/- Calls of what only reads and makes new memory; rows of data that are read. -/
import Derived.Test.YtkmjldihlgchdaaL9
import Derived.Great.BuildSlice
set_option linter.unusedVariables false
set_option linter.unusedSimpArgs false
namespace Go.Proofs.Ytkmjldihlgchdaa.M
section
variable {P : Program} {k : World} {N : Nat} {Q : Exit → Act → World → Prop} {next : Env → List HP → Prop} {e : Env} {L : List HP} {d : Option Nat} {ty : Nat} {ps : String} {af : Array Edge} {g : Option (Nat × Bool)} {t : Nat}
/-- A call of a function that leaves old memory alone: what it answers, and the chunks that it made. -/
def Pure (P : Program) (f : Nat) (args : Array Value) (w : World) (V : Value → List HP → Prop) : Prop :=
  Calls P f args w fun x w' => ∃ v C, x = .returned v ∧ V v C ∧ Sat w w' (C ++ [old w])
theorem Pure.mono {f : Nat} {args : Array Value} {w : World} {V V' : Value → List HP → Prop} (h : Pure P f args w V) (hi : ∀ v C, V v C → V' v C) : Pure P f args w V' :=
  Calls.mono h fun x w' ⟨v, C, a, b, c⟩ => ⟨v, C, a, hi v C b, c⟩
theorem WOX.pure {F : Nat} {xs : List Operand} {vs : List Value} {ts : Array Nat} {V : Value → List HP → Prop} [hF : CF P F] (hx : e.evs xs = some vs) (ht : Nat.blt t N = true)
    (spec : ∀ w, Sat k w L → Pure P F vs.toArray w V) (h : ∀ v C, V v C → next ((t, v) :: e) (C ++ L)) :
    WOX P k N Q ⟨some t, .call { callee := .value (.func F), args := xs.toArray, argTypes := ts }, ty, ps, af, g⟩ next e L :=
  WOX.fn hx ht (R := fun x w' => ∃ v C, x = .returned v ∧ V v C ∧ Sat k w' (C ++ L)) (fun w hs => Calls.mono (spec w hs) fun x w' ⟨v, C, a, b, c⟩ => ⟨v, C, a, b, Sat.lift c hs⟩)
    fun x w' ⟨v, C, a, b, c⟩ => ⟨v, C ++ L, a, c, h v C b⟩
theorem WOX.pureC {F f : Nat} {xs : List Operand} {vs us : List Value} {ts : Array Nat} {V : Value → List HP → Prop} [hF : CF P F] (hf : e.get f = some (.func (.func F) #[] us.toArray)) (hx : e.evs xs = some vs) (ht : Nat.blt t N = true)
    (spec : ∀ w, Sat k w L → Pure P F (vs ++ us).toArray w V) (h : ∀ v C, V v C → next ((t, v) :: e) (C ++ L)) :
    WOX P k N Q ⟨some t, .call { callee := .value (.tmp f), args := xs.toArray, argTypes := ts }, ty, ps, af, g⟩ next e L :=
  WOX.clo hf hx ht (R := fun x w' => ∃ v C, x = .returned v ∧ V v C ∧ Sat k w' (C ++ L)) (fun w hs => Calls.mono (spec w hs) fun x w' ⟨v, C, a, b, c⟩ => ⟨v, C, a, b, Sat.lift c hs⟩)
    fun x w' ⟨v, C, a, b, c⟩ => ⟨v, C ++ L, a, c, h v C b⟩
/-- It answers just v, and makes nothing that anyone asks for. -/
def Says (P : Program) (f : Nat) (args : Array Value) (w : World) (v : Value) : Prop :=
  Calls P f args w fun x w' => x = .returned v ∧ Sat w w' [old w]
theorem WOX.says {F : Nat} {xs : List Operand} {vs : List Value} {ts : Array Nat} {v : Value} [hF : CF P F] (hx : e.evs xs = some vs) (ht : Nat.blt t N = true)
    (spec : ∀ w, Sat k w L → Says P F vs.toArray w v) (h : next ((t, v) :: e) L) :
    WOX P k N Q ⟨some t, .call { callee := .value (.func F), args := xs.toArray, argTypes := ts }, ty, ps, af, g⟩ next e L :=
  WOX.fn hx ht (R := fun x w' => x = .returned v ∧ Sat k w' L) (fun w hs => Calls.mono (spec w hs) fun x w' ⟨a, c⟩ => ⟨a, Sat.lift0 c hs⟩) fun x w' ⟨a, c⟩ => ⟨v, L, a, c, h⟩
theorem WOX.saysC {F f : Nat} {xs : List Operand} {vs us : List Value} {ts : Array Nat} {v : Value} [hF : CF P F] (hf : e.get f = some (.func (.func F) #[] us.toArray)) (hx : e.evs xs = some vs) (ht : Nat.blt t N = true)
    (spec : ∀ w, Sat k w L → Says P F (vs ++ us).toArray w v) (h : next ((t, v) :: e) L) :
    WOX P k N Q ⟨some t, .call { callee := .value (.tmp f), args := xs.toArray, argTypes := ts }, ty, ps, af, g⟩ next e L :=
  WOX.clo hf hx ht (R := fun x w' => x = .returned v ∧ Sat k w' L) (fun w hs => Calls.mono (spec w hs) fun x w' ⟨a, c⟩ => ⟨a, Sat.lift0 c hs⟩) fun x w' ⟨a, c⟩ => ⟨v, L, a, c, h⟩
theorem DO.says {F : Nat} {ops : Array Oper} {rest : List Oper} {xs : List Operand} {vs : List Value} {ts : Array Nat} {v : Value} [hF : CF P F] (hx : e.evs xs = some vs) (ht : Nat.blt t N = true)
    (spec : ∀ w, Sat k w L → Says P F vs.toArray w v) (h : WD P k N ops Q rest ((t, v) :: e) L) :
    DO P k N ops Q ⟨some t, .call { callee := .value (.func F), args := xs.toArray, argTypes := ts }, ty, ps, af, g⟩ rest e L :=
  DO.fn hx ht (fun w hs => Calls.mono (spec w hs) fun x w' ⟨a, c⟩ => ⟨a, Sat.lift0 c hs⟩) h

/-! ### Rows that are read -/
/-- v reads as the elements xs, sz cells each. -/
def ReadL {α : Type} (w : World) (v : Value) (sz : Nat) (enc : α → List Value) (xs : List α) : Prop := Reads w v sz xs.length (xs.flatMap enc)
theorem ReadL.cell {α : Type} {w : World} {v : Value} {sz : Nat} {enc : α → List Value} {xs : List α} (hz : ∀ x, (enc x).length = sz) (h : ReadL w v sz enc xs) :
    ∃ p c, v = .slice p xs.length c ∧ xs.length ≤ 9223372036854775807 ∧ (0 < xs.length → ∃ b o, p = some ⟨b, o, none⟩ ∧ ∀ i x j u, xs[i]? = some x → (enc x)[j]? = some u → w.cell? ⟨b, o + i * sz + j, none⟩ = some u) := by
  obtain ⟨h1, p, c, h2, h3, h4⟩ := h
  refine ⟨p, c, h2, h3, fun hn => ?_⟩
  obtain ⟨b, o, h5, h6⟩ := h4 hn
  refine ⟨b, o, h5, fun i x j u hx hu => ?_⟩
  rw [Nat.add_assoc]
  exact h6 _ _ (flatMap_get hz xs i j x u hx hu)
theorem ReadL.mono {α : Type} {w w' : World} {v : Value} {sz : Nat} {enc : α → List Value} {xs : List α} (h : ReadL w v sz enc xs) (hc : ∀ p u, w.cell? p = some u → w'.cell? p = some u) : ReadL w' v sz enc xs := Reads.mono h hc
theorem ReadL.kept {α : Type} {w : World} {v : Value} {sz : Nat} {enc : α → List Value} {xs : List α} (h : ReadL k v sz enc xs) (hs : Sat k w L) [OldAt L k] : ReadL w v sz enc xs := Reads.kept h hs
theorem ReadL.len {α : Type} {w : World} {v : Value} {sz : Nat} {enc : α → List Value} {xs : List α} (h : ReadL w v sz enc xs) : ∃ p c, v = .slice p xs.length c := by
  obtain ⟨h1, p, c, h2, _⟩ := h; exact ⟨p, c, h2⟩
/-- An element that is read from memory that was there. -/
theorem OV.loadKE {T b o i sz n by_ : Nat} {z : Value} {α : Type} {enc : α → List Value} {xs : List α} {y : α} {dd : TypeDesc} {x : Operand} {vs : List Value} [TU P T dd] [TI P T n by_ z] (ha' : aggD dd = true) (hx : e.ev x = some (.pointer (some ⟨b, o + i * sz, none⟩))) [hL : OldAt L k]
    (hcell : ∀ i x j u, xs[i]? = some x → (enc x)[j]? = some u → k.cell? ⟨b, o + i * sz + j, none⟩ = some u) (hy : xs[i]? = some y) (hv : enc y = vs) (hn : vs.length = n) :
    OV P k N e L ⟨d, .load T x, ty, ps, af, g⟩ (.agg vs.toArray) :=
  OV.loadKN hx ha' hn fun j v hj => hcell i y j v hy (by rw [hv]; exact hj)
theorem OV.loadKE1 {T b o i sz : Nat} {α : Type} {enc : α → List Value} {xs : List α} {y : α} {dd : TypeDesc} {x : Operand} {v : Value} [TU P T dd] (ha' : aggD dd = false) (hx : e.ev x = some (.pointer (some ⟨b, o + i * sz, none⟩))) [hL : OldAt L k]
    (hcell : ∀ i x j u, xs[i]? = some x → (enc x)[j]? = some u → k.cell? ⟨b, o + i * sz + j, none⟩ = some u) (hy : xs[i]? = some y) (hv : (enc y)[0]? = some v) :
    OV P k N e L ⟨d, .load T x, ty, ps, af, g⟩ v :=
  OV.loadK1 hx ha' (hcell i y 0 v hy hv)
theorem OV.loadKEF {T b o i j sz : Nat} {α : Type} {enc : α → List Value} {xs : List α} {y : α} {dd : TypeDesc} {x : Operand} {v : Value} [TU P T dd] (ha' : aggD dd = false) (hx : e.ev x = some (.pointer (some ⟨b, o + i * sz + j, none⟩))) [hL : OldAt L k]
    (hcell : ∀ i x j u, xs[i]? = some x → (enc x)[j]? = some u → k.cell? ⟨b, o + i * sz + j, none⟩ = some u) (hy : xs[i]? = some y) (hv : (enc y)[j]? = some v) :
    OV P k N e L ⟨d, .load T x, ty, ps, af, g⟩ v :=
  OV.loadK1 hx ha' (hcell i y j v hy hv)
theorem OV.loadKEP {T b o i j sz n by_ : Nat} {z : Value} {α : Type} {enc : α → List Value} {xs : List α} {y : α} {dd : TypeDesc} {x : Operand} {vs : List Value} [TU P T dd] [TI P T n by_ z] (ha' : aggD dd = true) (hx : e.ev x = some (.pointer (some ⟨b, o + i * sz + j, none⟩))) [hL : OldAt L k]
    (hcell : ∀ i x j u, xs[i]? = some x → (enc x)[j]? = some u → k.cell? ⟨b, o + i * sz + j, none⟩ = some u) (hy : xs[i]? = some y) (hv : rowAt (enc y) j n = some vs) :
    OV P k N e L ⟨d, .load T x, ty, ps, af, g⟩ (.agg vs.toArray) := by
  obtain ⟨h1, h2⟩ := rowAt_get hv
  refine OV.loadKN hx ha' h1 fun q v hq => ?_
  rw [Nat.add_assoc]
  exact hcell i y _ v hy (h2 q v hq)
/-- What stands in a list of chunks reads in this world. -/
theorem Sat.readsS {w : World} {v : Value} {E sz n : Nat} {cs : List Value} (hs : Sat k w L) (h : In L (sliceP v E sz n cs)) : Reads w v sz n cs := by
  obtain ⟨R, h⟩ := hs.at h
  exact h.slice_reads
theorem Sat.readsC {w : World} {b E sz n c : Nat} {cs : List Value} (hs : Sat k w L) (h : In L (cellsP b E cs)) (hl : cs.length = n * sz) (hn : n ≤ 9223372036854775807) : Reads w (.slice (some ⟨b, 0, none⟩) n c) sz n cs := by
  obtain ⟨R, h⟩ := hs.at h
  exact h.cells_reads hl hn
theorem Sat.cellC {w : World} {b E o : Nat} {v : Value} {cs : List Value} (hs : Sat k w L) [h : CellAt L b E cs] (hv : cs[o]? = some v) : w.cell? ⟨b, o, none⟩ = some v := by
  have := hs.block h.h
  rw [cell_lit this]; simpa using hv
/-- Cells that lie in old memory: they are cells of a world that began later. -/
theorem Sat.start' (k : World) : Sat k k [old k] := Sat.start k
theorem Sat.ofOld {w : World} (hs : Sat k w L) [h : OldAt L k] {C : List HP} (hC : L = C ++ [old k]) : Sat k w (C ++ [old k]) := hC ▸ hs
end
/-! ### Some of the chunks, in another order -/
class TkC (L : List HP) (A : HP) (R : outParam (List HP)) : Prop where h : Take L A R
instance (priority := high) tkCHere {L : List HP} {A : HP} : TkC (A :: L) A L := ⟨.here⟩
instance (priority := low) tkCThere {L R : List HP} {A B : HP} [h : TkC L A R] : TkC (B :: L) A (B :: R) := ⟨.there h.h⟩
class SubL (L L' : List HP) : Prop where h : ∀ f, stars L f → ∃ g : Hl, (∀ b o, g b = some o → f b = some o) ∧ stars L' g
instance subNil {L : List HP} : SubL L [] := ⟨fun f _ => ⟨fun _ => none, (fun _ _ h => nomatch h), fun _ => rfl⟩⟩
instance (priority := low) subCons {L R L' : List HP} {A : HP} [h : TkC L A R] [h2 : SubL R L'] : SubL L (A :: L') := ⟨fun f hf => by
  obtain ⟨f1, f2, hd, hu, p, q⟩ := stars_perm h.h.perm hf
  obtain ⟨g2, hg, hq⟩ := h2.h f2 q
  refine ⟨fun b => (f1 b).or (g2 b), fun b o e => ?_, f1, g2, fun b => ?_, fun _ => rfl, p, hq⟩
  · rw [hu b]
    have e' : (f1 b).or (g2 b) = some o := e
    cases h1 : f1 b with
    | some x => rw [h1] at e'; simpa using e'
    | none =>
      rw [h1] at e'
      simp only [Option.none_or] at e' ⊢
      exact hg b o e'
  · cases hb : g2 b with
    | none => exact .inr rfl
    | some x =>
      left
      rcases hd b with h | h
      · exact h
      · rw [hg b x hb] at h; cases h⟩
instance (priority := high) subRefl {L : List HP} : SubL L L := ⟨fun f hf => ⟨f, fun _ _ h => h, hf⟩⟩
theorem Sat.sub {k w : World} {L L' : List HP} (hs : Sat k w L) [h : SubL L L'] : Sat k w L' := by
  obtain ⟨h0, f, hh, hf⟩ := hs
  obtain ⟨g, hg, hq⟩ := h.h f hf
  exact ⟨h0, g, fun b o e => hh b o (hg b o e), hq⟩
/-- One more chunk into a group. -/
theorem Sat.shutIn {k w : World} {G L : List HP} {A : HP} (hs : Sat k w (A :: stars G :: L)) : Sat k w (stars (G ++ [A]) :: L) := by
  have h1 := (hs.perm (List.Perm.swap _ _ _)).open
  refine Sat.shut (G := G ++ [A]) ?_
  simpa using h1
theorem Sat.consG {k w : World} {G L : List HP} {A : HP} (hs : Sat k w (A :: stars G :: L)) : Sat k w (stars (A :: G) :: L) :=
  ⟨hs.1, hs.2.elim fun h q => ⟨h, q.1, sepc_assoc.2 q.2⟩⟩
theorem Sat.unconsG {k w : World} {G L : List HP} {A : HP} (hs : Sat k w (stars (A :: G) :: L)) : Sat k w (A :: stars G :: L) :=
  ⟨hs.1, hs.2.elim fun h q => ⟨h, q.1, sepc_assoc.1 q.2⟩⟩
theorem Sat.emptyG {k w : World} {L : List HP} (hs : Sat k w L) : Sat k w (stars [] :: L) := Sat.shut (G := []) hs
/-! ### Slices of our own, found by their value -/
class SliceTk (L : List HP) (v : Value) (E sz n : outParam Nat) (cs : outParam (List Value)) (Ls : outParam (List HP)) : Prop where h : Take L (sliceP v E sz n cs) Ls
instance (priority := high) sliceTkHere {L : List HP} {v : Value} {E sz n : Nat} {cs : List Value} : SliceTk (sliceP v E sz n cs :: L) v E sz n cs L := ⟨.here⟩
instance (priority := low) sliceTkThere {L Ls : List HP} {A : HP} {v : Value} {E sz n : Nat} {cs : List Value} [h : SliceTk L v E sz n cs Ls] : SliceTk (A :: L) v E sz n cs (A :: Ls) := ⟨.there h.h⟩
/-- Elements of one cell or more whose cells are cells. -/
def oneCells (cs : List Value) : Bool := cs.all (·.oneCell')
theorem oneCells_flat {α : Type} {enc : α → List Value} {xs : List α} (h : ∀ x ∈ xs, oneCells (enc x) = true) : oneCells (xs.flatMap enc) = true := by
  unfold oneCells
  rw [List.all_eq_true]
  intro v hv
  obtain ⟨x, hx, hv⟩ := List.mem_flatMap.1 hv
  exact List.all_eq_true.1 (h x hx) v hv
section
variable {P : Program} {k : World} {N : Nat} {Q : Exit → Act → World → Prop} {next : Env → List HP → Prop} {e : Env} {L : List HP} {d : Option Nat} {ty : Nat} {ps : String} {af : Array Edge} {g : Option (Nat × Bool)} {t : Nat}
theorem Sat.readsT {w : World} {v : Value} {E sz n : Nat} {cs : List Value} {Ls : List HP} (hs : Sat k w L) [h : SliceTk L v E sz n cs Ls] : Reads w v sz n cs := (hs.take h.h).slice_reads
/-- What reads as cs in the world in which the call began; what reads so in each world that bears L. -/
class RK (k : World) (v : Value) (sz n : outParam Nat) (cs : outParam (List Value)) : Prop where h : Reads k v sz n cs
class RD (k : World) (L : List HP) (v : Value) (sz n : outParam Nat) (cs : outParam (List Value)) : Prop where h : ∀ w, Sat k w L → Reads w v sz n cs
instance (priority := high) rdOwn {E sz n : Nat} {v : Value} {cs : List Value} {Ls : List HP} [h : SliceTk L v E sz n cs Ls] : RD k L v sz n cs := ⟨fun w hs => hs.readsT⟩
instance rdOld {sz n : Nat} {v : Value} {cs : List Value} [OldAt L k] [h : RK k v sz n cs] : RD k L v sz n cs := ⟨fun w hs => h.h.kept hs⟩
theorem ReadL.rk {α : Type} {w : World} {v : Value} {sz : Nat} {enc : α → List Value} {xs : List α} (h : ReadL w v sz enc xs) : RK w v sz xs.length (xs.flatMap enc) := ⟨h⟩
theorem Sat.reads {w : World} {v : Value} {sz n : Nat} {cs : List Value} (hs : Sat k w L) [h : RD k L v sz n cs] : Reads w v sz n cs := h.h w hs
/-- append to a slice of our own. -/
theorem WOX.app {S E sz by_ n m : Nat} {z v x : Value} {cs news : List Value} {X Y : Operand} {Ls : List HP} [TU P S (.slice E)] [TI P E sz by_ z] (hX : e.ev X = some v) [hL : SliceTk L v E sz n cs Ls] (hY : e.ev Y = some x) [hr : RD k L x sz m news] (hz : Nat.beq z.cells.size sz = true) (h0 : Nat.blt 0 sz = true) (ht : Nat.blt t N = true)
    (h1 : oneCells news = true) (hb : (n + m) * by_ ≤ 140737488355328) (hm : n + m ≤ maxLen)
    (h : ∀ p' c', next ((t, .slice p' (n + m) c') :: e) (sliceP (.slice p' (n + m) c') E sz (n + m) (cs ++ news) :: Ls)) : WOX P k N Q ⟨some t, .call { callee := .builtin .append, args := #[X, Y], argTypes := #[S, S] }, ty, ps, af, g⟩ next e L :=
  WOX.append hz h0 hX hY ht (fun w hs => hs.take hL.h) hr.h (List.all_eq_true.1 h1) hb hm h
/-- The same, to an empty one. -/
theorem WOX.app0 {S E sz by_ m : Nat} {z v x : Value} {news : List Value} {X Y : Operand} {Ls : List HP} [TU P S (.slice E)] [TI P E sz by_ z] (hX : e.ev X = some v) [hL : SliceTk L v E sz 0 [] Ls] (hY : e.ev Y = some x) [hr : RD k L x sz m news] (hz : Nat.beq z.cells.size sz = true) (h0 : Nat.blt 0 sz = true) (ht : Nat.blt t N = true)
    (h1 : oneCells news = true) (hb : m * by_ ≤ 140737488355328) (hm : m ≤ maxLen)
    (h : ∀ p' c', next ((t, .slice p' m c') :: e) (sliceP (.slice p' m c') E sz m news :: Ls)) : WOX P k N Q ⟨some t, .call { callee := .builtin .append, args := #[X, Y], argTypes := #[S, S] }, ty, ps, af, g⟩ next e L :=
  WOX.append hz h0 hX hY ht (fun w hs => hs.take hL.h) hr.h (List.all_eq_true.1 h1) (by simpa using hb) (by simpa using hm) (by simpa using h)
/-- append to nil. -/
theorem WOX.appNil {S E sz by_ m : Nat} {z x : Value} {news : List Value} {X Y : Operand} [TU P S (.slice E)] [TI P E sz by_ z] (hX : e.ev X = some (.slice none 0 0)) (hY : e.ev Y = some x) [hr : RD k L x sz m news] (hz : Nat.beq z.cells.size sz = true) (h0 : Nat.blt 0 sz = true) (ht : Nat.blt t N = true)
    (h1 : oneCells news = true) (hb : m * by_ ≤ 140737488355328) (hm : m ≤ maxLen)
    (h : ∀ p' c', next ((t, .slice p' m c') :: e) (sliceP (.slice p' m c') E sz m news :: L)) : WOX P k N Q ⟨some t, .call { callee := .builtin .append, args := #[X, Y], argTypes := #[S, S] }, ty, ps, af, g⟩ next e L :=
  WOX.append (n := 0) (cs := []) hz h0 hX hY ht (fun w hs => hs.sliceP_nil E sz) hr.h (List.all_eq_true.1 h1) (by simpa using hb) (by simpa using hm) (by simpa using h)
/-! ### Slice literals, all their elements given -/
def evq (e : Env) : Nat → List (Nat × Operand) → Option (List Value)
  | _, [] => some []
  | n, (i, x) :: r => match Nat.beq i n, e.ev x, evq e (n + 1) r with
    | true, some v, some l => some (v :: l)
    | _, _, _ => none
theorem evq_spec {a : Act} (ha : Agr N a e) : ∀ (n : Nat) {xs : List (Nat × Operand)} {vs : List Value}, evq e n xs = some vs → xs.map (fun x => (x.1, a.eval x.2)) = (vs.zipIdx n).map fun x => (x.2, x.1)
  | n, [], vs, h => by simp [evq] at h; simp [h]
  | n, (i, x) :: r, vs, h => by
    unfold evq at h
    split at h
    · rename_i v l h0 h1 h2
      injection h with h
      subst h
      simp only [List.map_cons, List.zipIdx_cons, ha.ev h1, evq_spec ha (n + 1) h2]
      rw [Nat.eq_of_beq_eq_true h0]
    · cases h
theorem length_cells {sz : Nat} : ∀ {vs : List Value}, (∀ v ∈ vs, v.cells.size = sz) → (vs.flatMap fun v => v.cells.toList).length = vs.length * sz
  | [], _ => by simp
  | v :: vs, h => by
    rw [List.flatMap_cons, List.length_append, length_cells (fun u hu => h u (List.mem_cons_of_mem _ hu)), List.length_cons, Nat.add_mul, Array.length_toList, h v List.mem_cons_self]; omega
theorem WOX.bslice {S E len sz by_ : Nat} {z : Value} {xs : List (Nat × Operand)} {vs cs : List Value} [TU P S (.slice E)] [TI P E sz by_ z] (hx : evq e 0 xs = some vs) (hl : vs.length = len) (hsm : Nat.ble (len * sz) 16777216 = true) (hz : Nat.beq z.cells.size sz = true) (h0 : Nat.blt 0 sz = true) (hp : Nat.blt 0 len = true)
    (hv : vs.all (fun v => Nat.beq v.cells.size sz) = true) (ht : Nat.blt t N = true) (hc : vs.flatMap (fun v => v.cells.toList) = cs)
    (h : ∀ b, next ((t, .slice (some ⟨b, 0, none⟩) len len) :: e) (sliceP (.slice (some ⟨b, 0, none⟩) len len) E sz len cs :: L)) : WOX P k N Q ⟨some t, .buildSlice S len xs.toArray, ty, ps, af, g⟩ next e L :=
  WOX.does rfl ht fun a w ha hs => by
    have hz := Nat.eq_of_beq_eq_true hz
    obtain ⟨i, hi, rfl, rfl, hzz⟩ := zero_length (P := P) (T := E)
    have hT := (inferInstance : TU P S (.slice E)).h
    have h1 := evq_spec ha 0 hx
    have hv' : ∀ v ∈ vs, v.cells.size = i.size := fun v hv2 => by simpa using List.all_eq_true.1 hv v hv2
    have hlen : cs.length = len * i.size := by
      subst hc; subst hl; exact length_cells hv'
    have hsm' : len * i.size ≤ 16777216 := by simpa using hsm
    have h0' : 0 < i.size := by simpa using h0
    have hp' : 0 < len := by simpa using hp
    have hpos : 0 < len * i.size := Nat.mul_pos hp' h0'
    have hll : len ≤ len * i.size := Nat.le_mul_of_pos_right _ h0'
    refine ⟨_, _, _, ?_, (hs.cells_new E cs).imp fun h hq => sliceP_lit hlen (by simp only [maxLen]; omega) hq, h w.heap.size⟩
    have hf := Great.fill_whole h0' vs ((Array.range (len * i.size)).map (z.cells[· % z.cells.size]!)) hv' (by simp [hl])
    rw [hc] at hf
    have h2 := run_buildSlice (P := P) w S E len (xs.toArray.map fun (i, x) => (i, a.eval x)) cs.toArray i z hT hi hzz (by omega) (by omega) (by rw [Array.toList_map]; simp only [h1]; exact hf)
    simp only [execOp]
    exact run_v h2
end
/-! ### Data -/
/-- An integer of kind u64, one of kind i64, an ID. -/
def numc (n : Int) : List Value := [.int .u64 n]
def intc (n : Int) : List Value := [.int .i64 n]
def idc (x : Int × Int) : List Value := [.int .i64 x.1, .int .u64 x.2]
theorem idc_len (x : Int × Int) : (idc x).length = 2 := rfl
theorem numc_len (x : Int) : (numc x).length = 1 := rfl
theorem intc_len (x : Int) : (intc x).length = 1 := rfl
theorem one_num (x : Int) : oneCells (numc x) = true := rfl
theorem one_int (x : Int) : oneCells (intc x) = true := rfl
theorem one_id (x : Int × Int) : oneCells (idc x) = true := rfl
end Go.Proofs.Ytkmjldihlgchdaa.M
