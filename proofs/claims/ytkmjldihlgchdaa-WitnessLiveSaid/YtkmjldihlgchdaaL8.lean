/- Rows of elements in memory of our own: read and written at an index. -/
import Derived.Test.YtkmjldihlgchdaaL7
set_option linter.unusedVariables false
set_option linter.unusedSimpArgs false
namespace Go.Proofs.Ytkmjldihlgchdaa.M

/-- xs stand in block b from cell o on, sz cells each. -/
def seqP {α : Type} (b E o sz : Nat) (enc : α → List Value) (xs : List α) : HP := fun h =>
  (∀ x, (enc x).length = sz) ∧ ∃ pre post, pre.length = o ∧ cellsP b E (pre ++ xs.flatMap enc ++ post) h
class SeqAt (L : List HP) (b : Nat) (α : outParam Type) (E o sz : outParam Nat) (enc : outParam (α → List Value)) (xs : outParam (List α)) : Prop where h : In L (seqP b E o sz enc xs)
instance (priority := high) seqHere {L : List HP} {α : Type} {b E o sz : Nat} {enc : α → List Value} {xs : List α} : SeqAt (seqP b E o sz enc xs :: L) b α E o sz enc xs := ⟨.here⟩
instance (priority := low) seqThere {L : List HP} {A : HP} {α : Type} {b E o sz : Nat} {enc : α → List Value} {xs : List α} [h : SeqAt L b α E o sz enc xs] : SeqAt (A :: L) b α E o sz enc xs := ⟨.there h.h⟩
class SeqUp (L : List HP) (b : Nat) (α : outParam Type) (E o sz : outParam Nat) (enc : outParam (α → List Value)) (xs : outParam (List α)) (Lf : outParam (List α → List HP)) : Prop where h : ∀ ys, Upd L (seqP b E o sz enc xs) (seqP b E o sz enc ys) (Lf ys)
instance (priority := high) seqUpHere {L : List HP} {α : Type} {b E o sz : Nat} {enc : α → List Value} {xs : List α} : SeqUp (seqP b E o sz enc xs :: L) b α E o sz enc xs (fun ys => seqP b E o sz enc ys :: L) := ⟨fun _ => .here⟩
instance (priority := low) seqUpThere {L : List HP} {A : HP} {α : Type} {b E o sz : Nat} {enc : α → List Value} {xs : List α} {Lf : List α → List HP} [h : SeqUp L b α E o sz enc xs Lf] : SeqUp (A :: L) b α E o sz enc xs (fun ys => A :: Lf ys) := ⟨fun ys => .there (h.h ys)⟩

theorem length_flatMap {α : Type} {enc : α → List Value} {sz : Nat} (h : ∀ x, (enc x).length = sz) : ∀ xs : List α, (xs.flatMap enc).length = xs.length * sz
  | [] => by simp
  | x :: xs => by rw [List.flatMap_cons, List.length_append, h, length_flatMap h xs, List.length_cons, Nat.add_mul]; omega
theorem flatMap_get {α : Type} {enc : α → List Value} {sz : Nat} (h : ∀ x, (enc x).length = sz) : ∀ (xs : List α) (i j : Nat) (x : α) (v : Value), xs[i]? = some x → (enc x)[j]? = some v → (xs.flatMap enc)[i * sz + j]? = some v
  | [], i, j, x, v, hx, hv => by simp at hx
  | y :: xs, 0, j, x, v, hx, hv => by
    simp at hx
    subst hx
    rw [List.flatMap_cons, Nat.zero_mul, Nat.zero_add, List.getElem?_append_left (List.getElem?_eq_some_iff.1 hv).1]
    exact hv
  | y :: xs, i + 1, j, x, v, hx, hv => by
    simp at hx
    rw [List.flatMap_cons, List.getElem?_append_right (by rw [h, Nat.add_mul]; omega), h]
    rw [show (i + 1) * sz + j - sz = i * sz + j by rw [Nat.add_mul]; omega]
    exact flatMap_get h xs i j x v hx hv
theorem flatMap_set {α : Type} {enc : α → List Value} {sz : Nat} (h : ∀ x, (enc x).length = sz) : ∀ (xs : List α) (i : Nat) (x : α), i < xs.length → (xs.set i x).flatMap enc = (xs.flatMap enc).take (i * sz) ++ enc x ++ (xs.flatMap enc).drop (i * sz + sz)
  | [], i, x, hi => by simp at hi
  | y :: xs, 0, x, hi => by
    simp only [List.set_cons_zero, List.flatMap_cons, Nat.zero_mul, List.take_zero, List.nil_append, Nat.zero_add]
    rw [List.drop_append, h y]
    simp [List.drop_eq_nil_of_le, h y]
  | y :: xs, i + 1, x, hi => by
    have := flatMap_set h xs i x (by simpa using hi)
    simp only [List.set_cons_succ, List.flatMap_cons, this]
    have e1 : (i + 1) * sz = sz + i * sz := by rw [Nat.add_mul]; omega
    rw [e1, ← h y, List.take_length_add_append, Nat.add_assoc, List.drop_length_add_append]
    simp [h y]
theorem flatMap_set1 {α : Type} {enc : α → List Value} {sz : Nat} (h : ∀ x, (enc x).length = sz) (xs : List α) (i j : Nat) (x y : α) (v : Value) (hx : xs[i]? = some x) (hy : (enc x).set j v = enc y) (hj : j < sz) :
    (xs.flatMap enc).set (i * sz + j) v = (xs.set i y).flatMap enc := by
  have hi : i < xs.length := (List.getElem?_eq_some_iff.1 hx).1
  have hlen := length_flatMap h xs
  have hle : i * sz + sz ≤ xs.length * sz := by rw [← Nat.succ_mul]; exact Nat.mul_le_mul_right _ hi
  rw [flatMap_set h xs i y hi, ← hy]
  apply List.ext_getElem?
  intro q
  by_cases c1 : q < i * sz
  · rw [List.getElem?_set_ne (by omega), List.append_assoc, List.getElem?_append_left (by rw [List.length_take, hlen]; omega), List.getElem?_take_of_lt c1]
  · by_cases c2 : q < i * sz + sz
    · rw [List.append_assoc, List.getElem?_append_right (by rw [List.length_take, hlen]; omega), List.length_take, Nat.min_eq_left (by omega), List.getElem?_append_left (by rw [List.length_set, h]; omega)]
      by_cases c3 : q = i * sz + j
      · subst c3
        rw [List.getElem?_set_self (by omega), show i * sz + j - i * sz = j by omega, List.getElem?_set_self (by rw [h]; exact hj)]
      · rw [List.getElem?_set_ne (by omega), List.getElem?_set_ne (by omega)]
        have hq : q - i * sz < (enc x).length := by rw [h]; omega
        have := flatMap_get h xs i (q - i * sz) x _ hx (List.getElem?_eq_getElem hq)
        rw [show i * sz + (q - i * sz) = q by omega] at this
        rw [this, List.getElem?_eq_getElem hq]
    · have hl2 : ((xs.flatMap enc).take (i * sz) ++ (enc x).set j v).length = i * sz + sz := by rw [List.length_append, List.length_take, List.length_set, h, hlen]; omega
      rw [List.getElem?_set_ne (by omega), List.getElem?_append_right (by omega), List.getElem?_drop, hl2]
      congr 1
      omega

section
variable {P : Program} {k : World} {N : Nat} {Q : Exit → Act → World → Prop} {next : Env → List HP → Prop} {e : Env} {L : List HP} {d : Option Nat} {ty : Nat} {ps : String} {af : Array Edge} {g : Option (Nat × Bool)} {t : Nat}
theorem Sat.seq_cells {w : World} {α : Type} {b E o sz : Nat} {enc : α → List Value} {xs : List α} (hs : Sat k w (seqP b E o sz enc xs :: L)) : (∀ x, (enc x).length = sz) ∧ ∃ pre post, pre.length = o ∧ Sat k w (cellsP b E (pre ++ xs.flatMap enc ++ post) :: L) := by
  obtain ⟨h0, h, hh, h1, h2, hd, hu, ⟨a, pre, post, c1, c2⟩, q⟩ := hs
  exact ⟨a, pre, post, c1, h0, h, hh, h1, h2, hd, hu, c2, q⟩
theorem Sat.seq_cell {w : World} {α : Type} {b E o sz : Nat} {enc : α → List Value} {xs : List α} (hs : Sat k w (seqP b E o sz enc xs :: L)) {i j : Nat} {x : α} {v : Value} (hx : xs[i]? = some x) (hv : (enc x)[j]? = some v) :
    w.cell? ⟨b, o + i * sz + j, none⟩ = some v := by
  obtain ⟨hz, pre, post, rfl, h1⟩ := hs.seq_cells
  rw [cell_lit h1.read]
  have h2 := flatMap_get hz xs i j x v hx hv
  have hl := (List.getElem?_eq_some_iff.1 h2).1
  simp only [List.getElem?_toArray, List.append_assoc]
  rw [List.getElem?_append_right (by omega), show pre.length + i * sz + j - pre.length = i * sz + j by omega, List.getElem?_append_left hl, h2]
/-- A whole element of one cell. -/
theorem OV.loadE1 {T b b' o sz E o' : Nat} {α : Type} {enc : α → List Value} {xs : List α} {dd : TypeDesc} {x : Operand} {i : Nat} {y : α} {v : Value} [TU P T dd] [hL : SeqAt L b α E o sz enc xs] (hx : e.ev x = some (.pointer (some ⟨b, o + i * sz, none⟩))) (ha' : aggD dd = false) (hy : xs[i]? = some y) (hv : enc y = [v]) :
    OV P k N e L ⟨d, .load T x, ty, ps, af, g⟩ v := fun a w ha hs => by
  obtain ⟨R, hs'⟩ := hs.at hL.h
  have := hs'.seq_cell (j := 0) hy (by rw [hv]; rfl)
  simp only [Nat.add_zero] at this
  simp [execOp, ha.ev hx, Instr.loadAt, Instr.sureAddr, run_load1 ha' this]
/-- A whole element of several cells. -/
theorem OV.loadEN {T b o sz E by_ : Nat} {z : Value} {α : Type} {enc : α → List Value} {xs : List α} {dd : TypeDesc} {x : Operand} {i : Nat} {y : α} [TU P T dd] [TI P T sz by_ z] [hL : SeqAt L b α E o sz enc xs] (hx : e.ev x = some (.pointer (some ⟨b, o + i * sz, none⟩))) (ha' : aggD dd = true) (hy : xs[i]? = some y) :
    OV P k N e L ⟨d, .load T x, ty, ps, af, g⟩ (.agg (enc y).toArray) := fun a w ha hs => by
  obtain ⟨R, hs'⟩ := hs.at hL.h
  have hz := hs'.seq_cells.1
  have := run_loadN (P := P) (T := T) (b := b) (o := o + i * sz) ha' (hz y) (fun j v hv => hs'.seq_cell hy hv)
  simp [execOp, ha.ev hx, Instr.loadAt, Instr.sureAddr, this]
/-- One cell of an element. -/
theorem OV.loadEF {T b o sz E j : Nat} {α : Type} {enc : α → List Value} {xs : List α} {dd : TypeDesc} {x : Operand} {i : Nat} {y : α} {v : Value} [TU P T dd] [hL : SeqAt L b α E o sz enc xs] (hx : e.ev x = some (.pointer (some ⟨b, o + i * sz + j, none⟩))) (ha' : aggD dd = false) (hy : xs[i]? = some y) (hv : (enc y)[j]? = some v) :
    OV P k N e L ⟨d, .load T x, ty, ps, af, g⟩ v := fun a w ha hs => by
  obtain ⟨R, hs'⟩ := hs.at hL.h
  have := hs'.seq_cell hy hv
  simp [execOp, ha.ev hx, Instr.loadAt, Instr.sureAddr, run_load1 ha' this]
/-- Some cells of an element: a struct within it. -/
theorem OV.loadEP {T b o sz E j n by_ : Nat} {z : Value} {α : Type} {enc : α → List Value} {xs : List α} {dd : TypeDesc} {x : Operand} {i : Nat} {y : α} {vs : List Value} [TU P T dd] [TI P T n by_ z] [hL : SeqAt L b α E o sz enc xs] (hx : e.ev x = some (.pointer (some ⟨b, o + i * sz + j, none⟩))) (ha' : aggD dd = true) (hy : xs[i]? = some y) (hv : rowAt (enc y) j n = some vs) :
    OV P k N e L ⟨d, .load T x, ty, ps, af, g⟩ (.agg vs.toArray) := fun a w ha hs => by
  obtain ⟨R, hs'⟩ := hs.at hL.h
  obtain ⟨h1, h2⟩ := rowAt_get hv
  have := run_loadN (P := P) (T := T) (b := b) (o := o + i * sz + j) ha' h1 (w := w) (fun q v hq => by
    rw [Nat.add_assoc]; exact hs'.seq_cell hy (h2 q v hq))
  simp [execOp, ha.ev hx, Instr.loadAt, Instr.sureAddr, this]
theorem Sat.seq_write {w : World} {α : Type} {b E o sz : Nat} {enc : α → List Value} {xs : List α} {i j : Nat} {x y : α} {v : Value} (hs : Sat k w (seqP b E o sz enc xs :: L)) (hx : xs[i]? = some x) (hj : j < sz) (hy : (enc x).set j v = enc y) :
    ∃ cs : List Value, w.heap[b]? = some (.cells cs.toArray E (0, 0)) ∧ o + i * sz + j < cs.length ∧ Sat k (w.setRow b (cs.set (o + i * sz + j) v).toArray) (seqP b E o sz enc (xs.set i y) :: L) := by
  obtain ⟨hz, pre, post, rfl, h1⟩ := hs.seq_cells
  have hi : i < xs.length := (List.getElem?_eq_some_iff.1 hx).1
  have hlen := length_flatMap hz xs
  have hle : i * sz + sz ≤ xs.length * sz := by rw [← Nat.succ_mul]; exact Nat.mul_le_mul_right _ hi
  refine ⟨_, h1.read, by rw [List.length_append, List.length_append, hlen]; omega, ?_⟩
  have e1 : (pre ++ xs.flatMap enc ++ post).set (pre.length + i * sz + j) v = pre ++ (xs.set i y).flatMap enc ++ post := by
    rw [← flatMap_set1 hz xs i j x y v hx hy hj, List.append_assoc, List.set_append_right _ _ (by omega), List.set_append_left _ _ (by omega), List.append_assoc]
    congr 3
    omega
  rw [e1]
  exact (h1.setRow (cs' := pre ++ (xs.set i y).flatMap enc ++ post)).imp fun h hp => ⟨hz, pre, post, rfl, hp⟩
/-- One cell of an element is written: the element turns into y. -/
theorem WOX.storeEF {T b o sz E j n by_ i : Nat} {z v : Value} {α : Type} {enc : α → List Value} {xs : List α} {x y : Operand} {q q' : α} {Lf : List α → List HP} [TI P T n by_ z] [hL : SeqUp L b α E o sz enc xs Lf]
    (hx : e.ev x = some (.pointer (some ⟨b, o + i * sz + j, none⟩))) (hy : e.ev y = some v) (h1 : v.oneCell' = true) (hn : n = 1) (hq : xs[i]? = some q) (hj : Nat.blt j sz = true) (hset : (enc q).set j v = enc q')
    (h : next e (Lf (xs.set i q'))) : WOX P k N Q ⟨none, .store T x y, ty, ps, af, g⟩ next e L :=
  WOX.does0 rfl fun a w ha hs => by
    obtain ⟨R, p1, p2⟩ := (hL.h (xs.set i q')).perm
    obtain ⟨cs, c1, c2, c3⟩ := (hs.perm p1).seq_write hq (by simpa using hj) hset
    refine ⟨_, _, .inl ?_, c3.perm p2.symm, h⟩
    have := run_store1 (P := P) (T := T) h1 hn c1 c2
    simp [execOp, ha.ev hx, ha.ev hy, Instr.storeAt, Instr.sureAddr, this]
/-- An element of one cell is written. -/
theorem WOX.storeE1 {T b o sz E n by_ i : Nat} {z v : Value} {α : Type} {enc : α → List Value} {xs : List α} {x y : Operand} {q q' : α} {Lf : List α → List HP} [TI P T n by_ z] [hL : SeqUp L b α E o sz enc xs Lf]
    (hx : e.ev x = some (.pointer (some ⟨b, o + i * sz, none⟩))) (hy : e.ev y = some v) (h1 : v.oneCell' = true) (hn : n = 1) (hq : xs[i]? = some q) (hj : sz = 1) (hset : enc q' = [v])
    (h : next e (Lf (xs.set i q'))) : WOX P k N Q ⟨none, .store T x y, ty, ps, af, g⟩ next e L :=
  WOX.does0 rfl fun a w ha hs => by
    obtain ⟨R, p1, p2⟩ := (hL.h (xs.set i q')).perm
    have hz := (hs.perm p1).seq_cells.1
    have he : (enc q).set 0 v = enc q' := by
      have := hz q
      rw [hset]
      match hm : enc q, this with
      | [u], _ => rfl
      | [], h => simp [hj] at h
      | _ :: _ :: _, h => simp [hj] at h
    obtain ⟨cs, c1, c2, c3⟩ := (hs.perm p1).seq_write hq (by omega) he
    refine ⟨_, _, .inl ?_, c3.perm p2.symm, h⟩
    have := run_store1 (P := P) (T := T) h1 hn c1 c2
    simp only [Nat.add_zero] at this
    simp [execOp, ha.ev hx, ha.ev hy, Instr.storeAt, Instr.sureAddr, this]
/-- A whole element of several cells is written. -/
theorem WOX.storeEN {T b o sz E by_ i : Nat} {z : Value} {α : Type} {enc : α → List Value} {xs : List α} {x y : Operand} {q' : α} {vs : List Value} {Lf : List α → List HP} [TI P T sz by_ z] [hL : SeqUp L b α E o sz enc xs Lf]
    (hx : e.ev x = some (.pointer (some ⟨b, o + i * sz, none⟩))) (hy : e.ev y = some (.agg vs.toArray)) (hset : enc q' = vs) (h1 : vs.all (·.oneCell') = true) (hq : i < xs.length)
    (h : next e (Lf (xs.set i q'))) : WOX P k N Q ⟨none, .store T x y, ty, ps, af, g⟩ next e L :=
  WOX.does0 rfl fun a w ha hs => by
    obtain ⟨R, p1, p2⟩ := (hL.h (xs.set i q')).perm
    obtain ⟨hz, pre, post, rfl, h2⟩ := (hs.perm p1).seq_cells
    have hlen := length_flatMap hz xs
    have hle : i * sz + sz ≤ xs.length * sz := by rw [← Nat.succ_mul]; exact Nat.mul_le_mul_right _ hq
    subst hset
    have := run_storeN (P := P) (T := T) (b := b) (o := pre.length + i * sz) (vs := enc q') (by simpa using h1) (hz q') h2.read (by rw [List.length_append, List.length_append, hlen, hz]; omega)
    have e1 : overAt (pre ++ xs.flatMap enc ++ post) (pre.length + i * sz) (enc q') = pre ++ (xs.set i q').flatMap enc ++ post := by
      rw [flatMap_set hz xs i q' hq]
      unfold overAt
      rw [List.append_assoc pre, List.take_length_add_append, List.take_append_of_le_length (by omega), Nat.add_assoc, List.drop_length_add_append, hz, List.drop_append_of_le_length (by omega)]
      simp only [List.append_assoc]
    rw [e1] at this
    refine ⟨_, _, .inl ?_, ((h2.setRow (cs' := pre ++ (xs.set i q').flatMap enc ++ post)).imp fun h hp => ⟨hz, pre, post, rfl, hp⟩).perm p2.symm, h⟩
    simp [execOp, ha.ev hx, ha.ev hy, Instr.storeAt, Instr.sureAddr, this]
end
end Go.Proofs.Ytkmjldihlgchdaa.M
