/- Calls, struct literals, slices made and cut, equality of small structs; what a callee leaves is carried over to the caller. -/
import Derived.Test.YtkmjldihlgchdaaL8
import Derived.Laws.Tables
import Derived.Laws.Slices
import Derived.Laws.StructEq
import Derived.Laws.MakeOwn
import Derived.Lib.SliceRun
set_option linter.unusedVariables false
set_option linter.unusedSimpArgs false
namespace Go.Proofs.Ytkmjldihlgchdaa.M

/-! ### What a callee that began at w leaves, for its caller -/
theorem Sat.lift {k w w' : World} {C L : List HP} (h1 : Sat w w' (C ++ [old w])) (h2 : Sat k w L) : Sat k w' (C ++ L) := by
  obtain ⟨⟨a1, a2, a3⟩, h, hh, hs⟩ := h1
  obtain ⟨⟨b1, b2, b3⟩, g, hg, gs⟩ := h2
  obtain ⟨p, q, hd, hu, hp, hq⟩ := stars_app.1 hs
  have hq' : ∀ b, b < w.heap.size → q b = w.heap[b]? := stars_one.1 hq
  have hgq : ∀ b o, g b = some o → q b = some o := fun b o e => by
    have := hg b o e
    rw [hq' b (Array.getElem?_eq_some_iff.1 this).1]; exact this
  refine ⟨⟨a1.trans b1, a2.trans b2, a3.trans b3⟩, fun b => (p b).or (g b), ?_, stars_app.2 ⟨p, g, ?_, fun _ => rfl, hp, gs⟩⟩
  · intro b o e
    refine hh b o ?_
    rw [hu b]
    have e' : (p b).or (g b) = some o := e
    cases hpb : p b with
    | some x => rw [hpb] at e'; simpa using e'
    | none =>
      rw [hpb] at e'
      simp only [Option.none_or] at e' ⊢
      exact hgq b o e'
  · intro b
    cases hgb : g b with
    | none => exact .inr rfl
    | some x =>
      left
      rcases hd b with h | h
      · exact h
      · rw [hgq b x hgb] at h; cases h
theorem Sat.lift0 {k w w' : World} {L : List HP} (h1 : Sat w w' [old w]) (h2 : Sat k w L) : Sat k w' L := Sat.lift (C := []) h1 h2
theorem Sat.old_below {k w : World} {L : List HP} (hs : Sat k w L) [hL : OldAt L k] : Go.RowKit.Below k.heap.size k w := by
  obtain ⟨R, h⟩ := hs.at hL.h
  exact h.of_below
theorem Sat.lift1 {k w w' : World} {A : HP} {L : List HP} (h1 : Sat w w' [A, old w]) (h2 : Sat k w L) : Sat k w' (A :: L) := Sat.lift (C := [A]) h1 h2
theorem Sat.lift2 {k w w' : World} {A B : HP} {L : List HP} (h1 : Sat w w' [A, B, old w]) (h2 : Sat k w L) : Sat k w' (A :: B :: L) := Sat.lift (C := [A, B]) h1 h2
/-- What reads as cs in a world does so later, if the caller keeps its old memory. -/
theorem Reads.mono {w w' : World} {v : Value} {sz n : Nat} {cs : List Value} (h : Reads w v sz n cs) (hc : ∀ p u, w.cell? p = some u → w'.cell? p = some u) : Reads w' v sz n cs := by
  obtain ⟨h1, p, c, h2, h3, h4⟩ := h
  refine ⟨h1, p, c, h2, h3, fun hn => ?_⟩
  obtain ⟨b, o, h5, h6⟩ := h4 hn
  exact ⟨b, o, h5, fun j u hu => hc _ _ (h6 j u hu)⟩
theorem Reads.shape {w : World} {v : Value} {sz n : Nat} {cs : List Value} (h : Reads w v sz n cs) : ∃ p c, v = .slice p n c := by
  obtain ⟨h1, p, c, h2, h3, h4⟩ := h
  exact ⟨p, c, h2⟩

section
variable {P : Program} {k : World} {N : Nat} {Q : Exit → Act → World → Prop} {next : Env → List HP → Prop} {e : Env} {L : List HP} {d : Option Nat} {ty : Nat} {ps : String} {af : Array Edge} {g : Option (Nat × Bool)} {t : Nat}

/-! ### Calls -/
theorem WOX.fn {F : Nat} {xs : List Operand} {vs : List Value} {ts : Array Nat} {R : Ending → World → Prop} [hF : CF P F] (hx : e.evs xs = some vs) (ht : Nat.blt t N = true)
    (spec : ∀ w, Sat k w L → Calls P F vs.toArray w R) (h : ∀ x w', R x w' → ∃ v L', x = .returned v ∧ Sat k w' L' ∧ next ((t, v) :: e) L') :
    WOX P k N Q ⟨some t, .call { callee := .value (.func F), args := xs.toArray, argTypes := ts }, ty, ps, af, g⟩ next e L :=
  WOX.call (args := vs.toArray) rfl ht (fun a w ha hs => by
    have h1 := ha.evs hx
    have h2 : a.eval (.func F) = .func (.func F) #[] #[] := rfl
    simp [execOp, resolve, h1, h2, Deferred.ofValue, invoke, hF.h]) spec h
theorem WOX.fn0 {F : Nat} {xs : List Operand} {vs : List Value} {ts : Array Nat} {R : Ending → World → Prop} [hF : CF P F] (hx : e.evs xs = some vs)
    (spec : ∀ w, Sat k w L → Calls P F vs.toArray w R) (h : ∀ x w', R x w' → ∃ v L', x = .returned v ∧ Sat k w' L' ∧ next e L') :
    WOX P k N Q ⟨none, .call { callee := .value (.func F), args := xs.toArray, argTypes := ts }, ty, ps, af, g⟩ next e L :=
  WOX.call0 (args := vs.toArray) rfl (fun a w ha hs => by
    have h1 := ha.evs hx
    have h2 : a.eval (.func F) = .func (.func F) #[] #[] := rfl
    simp [execOp, resolve, h1, h2, Deferred.ofValue, invoke, hF.h]) spec h
/-- A function value is called. -/
theorem WOX.clo {F f : Nat} {xs : List Operand} {vs us : List Value} {ts : Array Nat} {R : Ending → World → Prop} [hF : CF P F] (hf : e.get f = some (.func (.func F) #[] us.toArray)) (hx : e.evs xs = some vs) (ht : Nat.blt t N = true)
    (spec : ∀ w, Sat k w L → Calls P F (vs ++ us).toArray w R) (h : ∀ x w', R x w' → ∃ v L', x = .returned v ∧ Sat k w' L' ∧ next ((t, v) :: e) L') :
    WOX P k N Q ⟨some t, .call { callee := .value (.tmp f), args := xs.toArray, argTypes := ts }, ty, ps, af, g⟩ next e L :=
  WOX.call (args := (vs ++ us).toArray) rfl ht (fun a w ha hs => by
    have h1 := ha.evs hx
    have h2 := ha.ev (x := .tmp f) hf
    simp [execOp, resolve, h1, h2, Deferred.ofValue, invoke, hF.h]) spec h
/-- A quiet call in a drawn region. -/
theorem DO.fn {F : Nat} {ops : Array Oper} {rest : List Oper} {xs : List Operand} {vs : List Value} {ts : Array Nat} {v : Value} [hF : CF P F] (hx : e.evs xs = some vs) (ht : Nat.blt t N = true)
    (spec : ∀ w, Sat k w L → Calls P F vs.toArray w (fun e w'' => e = .returned v ∧ Sat k w'' L)) (h : WD P k N ops Q rest ((t, v) :: e) L) :
    DO P k N ops Q ⟨some t, .call { callee := .value (.func F), args := xs.toArray, argTypes := ts }, ty, ps, af, g⟩ rest e L :=
  DO.quiet rfl ht (fun a w ha hs => by
    refine ⟨F, vs.toArray, ?_, spec w hs⟩
    have h1 := ha.evs hx
    have h2 : a.eval (.func F) = .func (.func F) #[] #[] := rfl
    simp [execOp, resolve, h1, h2, Deferred.ofValue, invoke, hF.h]) h

/-! ### Struct literals -/
def fillL (pl : List (Nat × Nat)) (cs : List Value) : List (Nat × Value) → Option (List Value)
  | [] => some cs
  | (i, v) :: r => match pl[i]? with
    | none => none
    | some (o, s) => if v.cells.toList.length = s ∧ o + s ≤ cs.length then fillL pl (overAt cs o v.cells.toList) r else none
theorem fold_over : ∀ (vs : List Value) (cs : List Value) (o j : Nat), o + j + vs.length ≤ cs.length →
    ((vs.zipIdx j).foldl (fun (cs : Array Value) (x : Value × Nat) => cs.setIfInBounds (o + x.2) x.1) cs.toArray) = (overAt cs (o + j) vs).toArray
  | [], cs, o, j, h => by simp [overAt]
  | v :: vs, cs, o, j, h => by
    simp only [List.length_cons] at h
    rw [List.zipIdx_cons, List.foldl_cons]
    have e1 : cs.toArray.setIfInBounds (o + j) v = (cs.set (o + j) v).toArray := by simp
    simp only [e1]
    rw [fold_over vs (cs.set (o + j) v) o (j + 1) (by rw [List.length_set]; omega)]
    congr 1
    unfold overAt
    apply List.ext_getElem?
    intro q
    rcases Nat.lt_trichotomy q (o + j) with c | c | c
    · rw [List.append_assoc, List.append_assoc, List.getElem?_append_left (by simp; omega), List.getElem?_append_left (by simp; omega), List.getElem?_take_of_lt (by omega), List.getElem?_take_of_lt c, List.getElem?_set_ne (by omega)]
    · subst c
      rw [List.append_assoc, List.append_assoc, List.getElem?_append_left (by simp; omega), List.getElem?_take_of_lt (by omega), List.getElem?_set_self (by omega), List.getElem?_append_right (by simp; omega)]
      simp [Nat.min_eq_left (show o + j ≤ cs.length by omega)]
    · have hA : (List.take (o + (j + 1)) (cs.set (o + j) v)).length = o + (j + 1) := by rw [List.length_take, List.length_set]; omega
      have hB : (List.take (o + j) cs).length = o + j := by rw [List.length_take]; omega
      rw [List.append_assoc, List.append_assoc, List.getElem?_append_right (by rw [hA]; omega), List.getElem?_append_right (l₁ := List.take (o + j) cs) (by rw [hB]; omega)]
      rw [hA, hB]
      rw [show q - (o + j) = (q - (o + (j + 1))) + 1 by omega, List.cons_append, List.getElem?_cons_succ]
      by_cases c2 : q - (o + (j + 1)) < vs.length
      · rw [List.getElem?_append_left c2, List.getElem?_append_left c2]
      · rw [List.getElem?_append_right (by omega), List.getElem?_append_right (by omega), List.getElem?_drop, List.getElem?_drop, List.getElem?_set_ne (by omega)]
        simp only [List.length_cons]
        congr 1
        omega
theorem fillL_spec (pl : List (Nat × Nat)) (place : Nat → Option (Nat × Nat)) (hp : ∀ i, place i = pl[i]?) : ∀ (parts : List (Nat × Value)) (cs cs' : List Value), fillL pl cs parts = some cs' → Instr.fill place cs.toArray parts = some cs'.toArray
  | [], cs, cs', h => by simp [fillL] at h; simp [Instr.fill, h]
  | (i, v) :: r, cs, cs', h => by
    unfold fillL at h
    split at h
    · cases h
    · rename_i o s he
      split at h
      · rename_i hc
        have hsz : v.cells.size = s := by simpa using hc.1
        unfold Instr.fill
        rw [hp i, he]
        simp only []
        rw [if_neg (by simp only [hsz, List.size_toArray]; simp; omega)]
        have e1 := fold_over v.cells.toList cs o 0 (by simp [hsz]; omega)
        simp only [Nat.add_zero] at e1
        have e2 : v.cells.zipIdx.foldl (fun (cs : Array Value) (x : Value × Nat) => cs.setIfInBounds (o + x.2) x.1) cs.toArray = (overAt cs o v.cells.toList).toArray := by
          rw [← e1, ← Array.foldl_toList, Array.toList_zipIdx]
        rw [show (v.cells.zipIdx.foldl (fun cs x => match x with | (c, j) => cs.setIfInBounds (o + j) c) cs.toArray) = (overAt cs o v.cells.toList).toArray from e2]
        exact fillL_spec pl place hp r _ _ h
      · cases h
/-- A struct type: where its fields lie, how large they are, its zero cells. -/
class TB (P : Program) (t : Nat) (pl : outParam (List (Nat × Nat))) (zs : outParam (List Value)) : Prop where h : ∀ parts, P.built t parts = Instr.fill (pl.toArray[·]?) zs.toArray parts
theorem tb {t : Nat} {fs : Array Field} {pl : List (Nat × Nat)} {zs : List Value} (h : P.underlying t = some (.struct fs)) (hz : ((P.info? t).bind (·.zero)).map (·.cells) = some zs.toArray) (hp : fs.toList.mapM (fun f => (P.info? f.type).map fun i => (f.offset, i.size)) = some pl) : TB P t pl zs := ⟨fun parts => by
  cases hi : P.info? t with
  | none => rw [hi] at hz; cases hz
  | some i =>
    rw [hi] at hz
    simp only [Option.bind_some] at hz
    obtain ⟨z, hz1, hz2⟩ := Option.map_eq_some_iff.1 hz
    unfold Program.built
    rw [hi, h]
    simp only [hz1, hp, hz2]⟩
def evp (e : Env) : List (Nat × Operand) → Option (List (Nat × Value))
  | [] => some []
  | (i, x) :: r => match e.ev x, evp e r with
    | some v, some l => some ((i, v) :: l)
    | _, _ => none
theorem evp_map {a : Act} (ha : Agr N a e) : ∀ {xs : List (Nat × Operand)} {vs : List (Nat × Value)}, evp e xs = some vs → xs.map (fun x => (x.1, a.eval x.2)) = vs
  | [], vs, h => by simp [evp] at h; simp [h]
  | (i, x) :: r, vs, h => by
    unfold evp at h
    split at h
    · rename_i v l h1 h2
      injection h with h
      subst h
      simp only [List.map_cons, ha.ev h1, evp_map ha h2]
    · cases h
theorem OV.build {T : Nat} {xs : List (Nat × Operand)} {vs : List (Nat × Value)} {pl : List (Nat × Nat)} {zs cs : List Value} [hT : TB P T pl zs] (hx : evp e xs = some vs) (hf : fillL pl zs vs = some cs) :
    OV P k N e L ⟨d, .build T xs.toArray, ty, ps, af, g⟩ (.agg cs.toArray) := fun a w ha hs => by
  have h1 := evp_map ha hx
  have h2 : P.built T (xs.toArray.map fun (i, x) => (i, a.eval x)).toList = some cs.toArray := by
    rw [hT.h, Array.toList_map]
    simp only [h1]
    exact fillL_spec pl _ (fun i => by simp) vs zs cs hf
  have h3 := run_build (P := P) w T _ _ h2
  simp only [execOp]
  exact run_v h3

/-- The cells of a type's zero value. -/
class TZ (P : Program) (t : Nat) (cs : outParam (List Value)) : Prop where h : ∃ i z, P.info? t = some i ∧ i.zero = some z ∧ z.cells = cs.toArray
theorem tz {t : Nat} {cs : List Value} (h : ((P.info? t).bind (·.zero)).map (·.cells) = some cs.toArray) : TZ P t cs := by
  obtain ⟨z, h1, h2⟩ := Option.map_eq_some_iff.1 h
  obtain ⟨i, h3, h4⟩ := Option.bind_eq_some_iff.1 h1
  exact ⟨i, z, h3, h4, h2⟩
theorem WOX.allocZ {T : Nat} {cs : List Value} [hT : TZ P T cs] (ht : Nat.blt t N = true)
    (h : ∀ b, next ((t, .pointer (some ⟨b, 0, none⟩)) :: e) (cellsP b T cs :: L)) : WOX P k N Q ⟨some t, .alloc T, ty, ps, af, g⟩ next e L :=
  WOX.does rfl ht fun a w ha hs => by
    obtain ⟨i, z, h1, h2, hz⟩ := hT.h
    refine ⟨_, _, _, ?_, hs.cells_new T cs, h w.heap.size⟩
    simp [execOp, Instr.alloc, zeroValue, typeInfo, h1, h2, newVar, newRow, hz]
theorem WOX.boxA {T : Nat} {x : Operand} {cs : List Value} (hx : e.ev x = some (.agg cs.toArray)) (ht : Nat.blt t N = true)
    (h : ∀ b, next ((t, .pointer (some ⟨b, 0, none⟩)) :: e) (cellsP b T cs :: L)) : WOX P k N Q ⟨some t, .box T x, ty, ps, af, g⟩ next e L :=
  WOX.box hx rfl ht h
theorem WOX.box1 {T : Nat} {x : Operand} {v : Value} (hx : e.ev x = some v) (h1 : v.oneCell' = true) (ht : Nat.blt t N = true)
    (h : ∀ b, next ((t, .pointer (some ⟨b, 0, none⟩)) :: e) (cellsP b T [v] :: L)) : WOX P k N Q ⟨some t, .box T x, ty, ps, af, g⟩ next e L :=
  WOX.box hx (by cases v <;> first | rfl | (simp [Value.oneCell'] at h1)) ht h

/-! ### Slice literals -/
theorem run_buildSlice' {w : World} {S E len sz by_ : Nat} {z : Value} {parts : List (Nat × Value)} {cs : List Value} [TU P S (.slice E)] [TI P E sz by_ z] (hsm : Nat.ble (len * sz) 16777216 = true) (hz : z.cells.size = sz)
    (hf : fillL ((List.range len).map fun i => (i * sz, sz)) ((List.range (len * sz)).map fun i => z.cells[i % sz]!) parts = some cs) (hlt : parts.all (fun p => Nat.blt p.1 len) = true) :
    (Instr.buildSlice S len parts.toArray).run P w = .ok (.slice (some ⟨w.heap.size, 0, none⟩) len len) (w.alloc (.cells cs.toArray E)) := by
  obtain ⟨i, hi, rfl, rfl, hzz⟩ := zero_length (P := P) (T := E)
  have ht := (inferInstance : TU P S (.slice E)).h
  have hsm' : ¬ len * i.size > 2 ^ 24 := by simp at hsm; omega
  have hfill : ∀ (zs : Array Value), zs = ((List.range (len * i.size)).map fun j => z.cells[j % i.size]!).toArray → Instr.fill (fun j => some (j * i.size, i.size)) zs parts = some cs.toArray := by
    intro zs hzs
    subst hzs
    have : ∀ (ps : List (Nat × Value)) (zs : Array Value), ps.all (fun p => Nat.blt p.1 len) = true → Instr.fill (fun j => some (j * i.size, i.size)) zs ps = Instr.fill (fun j => ((List.range len).map fun i_1 => (i_1 * i.size, i.size))[j]?) zs ps := by
      intro ps
      induction ps with
      | nil => intro zs _; rfl
      | cons p ps ih =>
        intro zs hall
        simp only [List.all_cons, Bool.and_eq_true] at hall
        have hp : p.1 < len := by simpa using hall.1
        obtain ⟨j, v⟩ := p
        unfold Instr.fill
        have e1 : ((List.range len).map fun i_1 => (i_1 * i.size, i.size))[j]? = some (j * i.size, i.size) := by simp [hp]
        simp only [e1]
        split
        · rfl
        · exact ih _ hall.2
    rw [this parts _ hlt]
    exact fillL_spec _ _ (fun i => rfl) parts _ cs hf
  by_cases h0 : len * i.size = 0
  · have := hfill #[] (by rw [h0]; rfl)
    have e0 : (Array.range 0).map (fun _ => (default : Value)) = #[] := by rw [show Array.range 0 = #[] from rfl]; simp
    simp [Instr.buildSlice, run_underlying ht, sizeOf, typeInfo, hi, h0, e0, this, newRow]
  · have := hfill ((Array.range (len * i.size)).map (z.cells[· % z.cells.size]!)) (by apply Array.ext'; simp [hz])
    simp [Instr.buildSlice, run_underlying ht, sizeOf, typeInfo, zeroValue, hi, hzz, hsm', h0, this, newRow]
theorem WOX.buildSlice {S E len sz by_ : Nat} {z : Value} {xs : List (Nat × Operand)} {parts : List (Nat × Value)} {cs : List Value} [TU P S (.slice E)] [TI P E sz by_ z] (hx : evp e xs = some parts) (hsm : Nat.ble (len * sz) 16777216 = true) (hz : Nat.beq z.cells.size sz = true)
    (hlt : parts.all (fun p => Nat.blt p.1 len) = true) (ht : Nat.blt t N = true)
    (hf : fillL ((List.range len).map fun i => (i * sz, sz)) ((List.range (len * sz)).map fun i => z.cells[i % sz]!) parts = some cs)
    (h : ∀ b, next ((t, .slice (some ⟨b, 0, none⟩) len len) :: e) (cellsP b E cs :: L)) : WOX P k N Q ⟨some t, .buildSlice S len xs.toArray, ty, ps, af, g⟩ next e L :=
  WOX.does rfl ht fun a w ha hs => by
    have hz := Nat.eq_of_beq_eq_true hz
    refine ⟨_, _, _, ?_, hs.cells_new E cs, h w.heap.size⟩
    have h1 := evp_map ha hx
    have h2 := run_buildSlice' (P := P) (w := w) (S := S) (parts := parts) hsm hz hf hlt
    have h3 : (xs.toArray.map fun (i, x) => (i, a.eval x)) = parts.toArray := by rw [← h1]; simp
    simp only [execOp, h3]
    exact run_v h2
/-- An empty slice of its own. -/
theorem WOX.buildSlice0 {S E sz by_ : Nat} {z : Value} [TU P S (.slice E)] [TI P E sz by_ z] (hz : Nat.beq z.cells.size sz = true) (ht : Nat.blt t N = true)
    (h : ∀ b, next ((t, .slice (some ⟨b, 0, none⟩) 0 0) :: e) (sliceP (.slice (some ⟨b, 0, none⟩) 0 0) E sz 0 [] :: L)) : WOX P k N Q ⟨some t, .buildSlice S 0 #[], ty, ps, af, g⟩ next e L :=
  WOX.does rfl ht fun a w ha hs => by
    have hz := Nat.eq_of_beq_eq_true hz
    have h2 := run_buildSlice' (P := P) (w := w) (S := S) (E := E) (len := 0) (parts := []) (cs := []) (by simp) hz (by simp [fillL]) rfl
    refine ⟨_, _, _, ?_, (hs.cells_new E []).imp fun h hp => sliceP_lit (by simp) (Nat.zero_le _) hp, h w.heap.size⟩
    have h3 : ((#[] : Array (Nat × Operand)).map fun (i, x) => (i, a.eval x)) = #[] := by simp
    simp only [execOp, h3]
    exact run_v h2
/-- append of what reads as 'news'. -/
theorem WOX.append {S E sz by_ n m : Nat} {z v x : Value} {cs news : List Value} {X Y : Operand} {Ls : List HP} [TU P S (.slice E)] [TI P E sz by_ z] (hz : Nat.beq z.cells.size sz = true) (h0 : Nat.blt 0 sz = true) (hX : e.ev X = some v) (hY : e.ev Y = some x) (ht : Nat.blt t N = true)
    (hL : ∀ w, Sat k w L → Sat k w (sliceP v E sz n cs :: Ls)) (hr : ∀ w, Sat k w L → Reads w x sz m news) (h1 : ∀ u ∈ news, u.oneCell' = true) (hb : (n + m) * by_ ≤ 140737488355328) (hm : n + m ≤ maxLen)
    (h : ∀ p' c', next ((t, .slice p' (n + m) c') :: e) (sliceP (.slice p' (n + m) c') E sz (n + m) (cs ++ news) :: Ls)) : WOX P k N Q ⟨some t, .call { callee := .builtin .append, args := #[X, Y], argTypes := #[S, S] }, ty, ps, af, g⟩ next e L :=
  WOX.does rfl ht fun a w ha hs => by
    have hz := Nat.eq_of_beq_eq_true hz
    obtain ⟨v', w', r1, r2⟩ := run_append (P := P) (S := S) (ty := ty) hz (by simpa using h0) (hL w hs) (hr w hs) h1 hb hm
    obtain ⟨_, _, p', c', rfl⟩ := r2.slice_shape
    refine ⟨_, w', _, ?_, r2, h p' c'⟩
    simp [execOp, ha.ev hX, ha.ev hY, resolve, invoke, builtin, r1]
/-! ### Parts of slices -/
def cutV (b o : Nat) (sz : Nat) (l h m : Nat) : Value := .slice (some ⟨b, if m = l then o else o + l * sz, none⟩) (h - l) (m - l)
theorem elem_of {S E : Nat} (h : P.underlying S = some (.slice E)) : P.elem S = E := by simp [Program.elem, h]
theorem run_cut {w : World} {S E sz by_ b o n c : Nat} {z : Value} {lo hi : Option Value} {l h : Nat} [TU P S (.slice E)] [TI P E sz by_ z]
    (hl : (lo = none ∧ l = 0) ∨ ∃ kk, lo = some (.int kk l)) (hh : (hi = none ∧ h = n) ∨ ∃ kk, hi = some (.int kk h)) (h1 : l ≤ h) (h2 : h ≤ c) (hn : n ≤ c) :
    (Instr.sliceAt S (.slice (some ⟨b, o, none⟩) n c) lo hi none).run P w = .ok (cutV b o sz l h c) w := by
  have ht := (inferInstance : TU P S (.slice E)).h
  have key : (Instr.sliceBounds true n c lo hi none).run P w = .ok (l, h, c) w := by
    unfold Instr.sliceBounds
    rcases hl with ⟨rfl, rfl⟩ | ⟨kl, rfl⟩ <;> rcases hh with ⟨rfl, rfl⟩ | ⟨kh, rfl⟩ <;>
      simp [Instr.sliceBounds, run_sliceBound, h1, h2, hn]
  have hsz : (sizeOf E).run P w = .ok sz w := run_size
  simp only [Instr.sliceAt, Sem.run_bind, run_underlying ht, Result.andThen_ok, Instr.slice, key, hsz, Sem.run_pure, cutV, Option.map_some, add_lit]
  by_cases hc : c = l <;> simp [hc, add_lit]
theorem OV.cut {S E sz by_ b o n c l h : Nat} {z : Value} {x : Operand} {lo hi : Option Operand} [TU P S (.slice E)] [TI P E sz by_ z] (hx : e.ev x = some (.slice (some ⟨b, o, none⟩) n c))
    (hl : (lo = none ∧ l = 0) ∨ ∃ y kk, lo = some y ∧ e.ev y = some (.int kk l)) (hh : (hi = none ∧ h = n) ∨ ∃ y kk, hi = some y ∧ e.ev y = some (.int kk h)) (h1 : l ≤ h) (h2 : h ≤ c) (hn : n ≤ c) :
    OV P k N e L ⟨d, .slice S x lo hi none, ty, ps, af, g⟩ (cutV b o sz l h c) := fun a w ha hs => by
  simp only [execOp, ha.ev hx]
  refine run_v (run_cut (P := P) ?_ ?_ h1 h2 hn)
  · rcases hl with ⟨rfl, rfl⟩ | ⟨y, kk, rfl, hy⟩
    · exact .inl ⟨rfl, rfl⟩
    · exact .inr ⟨kk, by simp [ha.ev hy]⟩
  · rcases hh with ⟨rfl, rfl⟩ | ⟨y, kk, rfl, hy⟩
    · exact .inl ⟨rfl, rfl⟩
    · exact .inr ⟨kk, by simp [ha.ev hy]⟩

/-! ### Slices made -/
theorem WOX.makeSlice {S E sz by_ : Nat} {z : Value} {x y : Operand} {k1 k2 : IntKind} {n c : Nat} [TU P S (.slice E)] [TI P E sz by_ z] (hx : e.ev x = some (.int k1 n)) (hy : e.ev y = some (.int k2 c)) (hz : Nat.beq z.cells.size sz = true) (hnc : n ≤ c) (hc : c ≤ maxLen) (hb : by_ * c ≤ 281474976710656) (ht : Nat.blt t N = true)
    (h : ∀ b, next ((t, .slice (some ⟨b, 0, none⟩) n c) :: e) (cellsP b E (madeCells z.cells (c * sz)).toList :: L)) : WOX P k N Q ⟨some t, .makeSlice S x y, ty, ps, af, g⟩ next e L :=
  WOX.does rfl ht fun a w ha hs => by
    have hz := Nat.eq_of_beq_eq_true hz
    obtain ⟨i, hi, rfl, rfl, hzz⟩ := zero_length (P := P) (T := E)
    have hT := (inferInstance : TU P S (.slice E)).h
    have hb' : (i.bytes : Int) * (c : Int) ≤ 281474976710656 := by rw [← Int.natCast_mul]; omega
    have h1 := run_make (P := P) w S E i z hT hi hzz k1 k2 n c (by omega) (by omega) hb' (by simp only [maxLen] at hc; omega)
    simp only [Int.toNat_natCast] at h1
    refine ⟨_, _, _, ?_, hs.cells_new E _, h w.heap.size⟩
    simp only [execOp, ha.ev hx, ha.ev hy]
    exact run_v h1
/-! ### Equality of a struct of two integers -/
class T2 (P : Program) (t : Nat) (k1 k2 : outParam IntKind) : Prop where h : ∃ f1 f2 : Field, P.underlying t = some (.struct #[f1, f2]) ∧ f1.name ≠ "_" ∧ f2.name ≠ "_" ∧ f1.offset = 0 ∧ f2.offset = 1 ∧ P.underlying f1.type = some (.int k1) ∧ P.underlying f2.type = some (.int k2) ∧ P.stoodInHeld t = false ∧ P.eqGuardType P.depth t = false
theorem run_part1 {t off : Nat} {dd : TypeDesc} {cs : List Value} {v : Value} {w : World} (h : P.underlying t = some dd) (ha : aggD dd = false) (hv : cs[off]? = some v) : (part t cs.toArray off).run P w = .ok v w := by
  have h1 := run_isAgg (P := P) (w := w) (t := t) (d := dd) (h := ⟨h⟩)
  simp [part, h1, ha, hv]
theorem equal_2 {t : Nat} {k1 k2 : IntKind} {a b c d : Int} {w : World} [hT : T2 P t k1 k2] : (Op.equal t (.agg #[.int k1 a, .int k2 b]) (.agg #[.int k1 c, .int k2 d])).run P w = .ok (decide (a = c) && decide (b = d)) w := by
  obtain ⟨f1, f2, h1, n1, n2, o1, o2, u1, u2, hs, _⟩ := hT.h
  have hf : P.fieldsOf t = #[f1, f2] := by simp [Program.fieldsOf, h1]
  rw [equal_at, run_equalIn_struct w 9999 t _ _ (by rw [hf]; exact h1) hs, hf]
  have p1 : ∀ x y : Int, (part f1.type (#[.int k1 x, .int k2 y]) f1.offset).run P w = .ok (.int k1 x) w := fun x y => run_part1 (cs := [.int k1 x, .int k2 y]) u1 rfl (by rw [o1]; rfl)
  have p2 : ∀ x y : Int, (part f2.type (#[.int k1 x, .int k2 y]) f2.offset).run P w = .ok (.int k2 y) w := fun x y => run_part1 (cs := [.int k1 x, .int k2 y]) u2 rfl (by rw [o2]; rfl)
  have q1 := run_equalIn_int (P := P) w 9998 f1.type k1 k1 a c u1
  have q2 := run_equalIn_int (P := P) w 9998 f2.type k2 k2 b d u2
  simp only [Op.eqFields, n1, n2, ne_eq, not_false_iff, if_true, Sem.run_bind, p1, p2, Result.andThen_ok]
  have q1' : (Op.equalIn 9999 f1.type (.int k1 a) (.int k1 c)).run P w = .ok (a == c) w := q1
  have q2' : (Op.equalIn 9999 f2.type (.int k2 b) (.int k2 d)).run P w = .ok (b == d) w := q2
  rw [q1']
  simp only [Result.andThen_ok]
  by_cases e1 : a = c
  · subst e1
    simp only [BEq.rfl, Bool.not_true, Bool.false_eq_true, if_false, Sem.run_bind, p2, Result.andThen_ok, q2']
    by_cases e2 : b = d
    · subst e2; simp
    · simp [e2]
  · simp [e1]
theorem guard_2 {op : BinOp} {t : Nat} {x y : Operand} {k1 k2 : IntKind} {xs ys : Array Value} {w : World} [hT : T2 P t k1 k2] : (eqGuard op t x y (.agg xs) (.agg ys)).run P w = .ok () w := by
  obtain ⟨f1, f2, h1, n1, n2, o1, o2, u1, u2, hs, hg⟩ := hT.h
  unfold eqGuard
  cases op <;> simp [hg]
theorem OV.eq2 {t t' : Nat} {x y : Operand} {k1 k2 : IntKind} {a b c d' : Int} [hT : T2 P t k1 k2] (hx : e.ev x = some (.agg #[.int k1 a, .int k2 b])) (hy : e.ev y = some (.agg #[.int k1 c, .int k2 d'])) :
    OV P k N e L ⟨d, .binOp .eql t x y t', ty, ps, af, g⟩ (.bool (decide (a = c) && decide (b = d'))) := fun q w ha hs => by
  rw [exec_bin, ha.ev hx, ha.ev hy]
  exact run_v (run_eql (by simp) (by simp) (by simp) (by simp) guard_2 equal_2)
theorem OV.ne2 {t t' : Nat} {x y : Operand} {k1 k2 : IntKind} {a b c d' : Int} [hT : T2 P t k1 k2] (hx : e.ev x = some (.agg #[.int k1 a, .int k2 b])) (hy : e.ev y = some (.agg #[.int k1 c, .int k2 d'])) :
    OV P k N e L ⟨d, .binOp .neq t x y t', ty, ps, af, g⟩ (.bool (!(decide (a = c) && decide (b = d')))) := fun q w ha hs => by
  rw [exec_bin, ha.ev hx, ha.ev hy]
  exact run_v (run_neq (by simp) (by simp) (by simp) (by simp) guard_2 equal_2)
end
end Go.Proofs.Ytkmjldihlgchdaa.M
