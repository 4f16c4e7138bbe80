/- From the row's data to what our readers say. -/
import Derived.Test.YtkmjldihlgchdaaL11
import Derived.ChangeArms
import Derived.SizedLaws
import Derived.ProofKit
set_option linter.unusedVariables false
set_option linter.unusedSimpArgs false
namespace Go.Proofs.Ytkmjldihlgchdaa.M
section
variable {H : Type} {enc : TypeId × Value → H} {P : Program} {w : World} {spare : Nat → Bool} {held : Bool} {fuel : Nat} {t : TypeId} {cs : List Value} {x : DataW H × List MemPlace}
/-- No part of it is larger than a row can be. -/
def Sz (P : Program) (t : TypeId) (d : DataW H) : Prop := ∀ n ∈ d.weights P t, n ≤ reachBytes
theorem weights_all {e : TypeId} : ∀ {ds : List (DataW H)} {d : DataW H}, d ∈ ds → ∀ n ∈ d.weights P e, n ∈ DataW.weightsAll P e ds
  | [], d, h, n, hn => by cases h
  | y :: ds, d, h, n, hn => by
    unfold DataW.weightsAll
    rw [List.mem_append]
    rcases List.mem_cons.1 h with rfl | h
    · exact .inl hn
    · exact .inr (weights_all h n hn)
theorem Sz.slice {e : TypeId} {es rs : List (DataW H)} (ht : P.underlying t = some (.slice e)) (h : Sz P t (.slice es rs)) : (es.length + rs.length) * P.bytesOf e ≤ reachBytes ∧ ∀ d ∈ es, Sz P e d := by
  unfold Sz at h
  rw [DataW.weights.eq_def] at h
  simp only [ht] at h
  refine ⟨h _ (List.mem_cons_self), fun d hd n hn => h n (List.mem_cons_of_mem _ (List.mem_append_left _ (weights_all hd n hn)))⟩
theorem Sz.struct {fs : Array Field} {ps : List (DataW H)} (ht : P.underlying t = some (.struct fs)) (h : Sz P t (.agg ps)) {j : Nat} {f : Field} {d : DataW H} (hf : fs[j]? = some f) (hd : ps[j]? = some d) : Sz P f.type d := by
  intro n hn
  unfold Sz at h
  rw [DataW.weights.eq_def] at h
  simp only [ht] at h
  refine h n (DataW.weights_mem_each (j := j) (t := f.type) ?_ hd n hn)
  simp [hf]
theorem exists_list {α : Type} {n : Nat} {p : Nat → α → Prop} (h : ∀ i, i < n → ∃ x, p i x) : ∃ xs : List α, xs.length = n ∧ ∀ i x, xs[i]? = some x → p i x := by
  induction n with
  | zero => exact ⟨[], rfl, fun i x hx => by simp at hx⟩
  | succ n ih =>
    obtain ⟨xs, h1, h2⟩ := ih fun i hi => h i (by omega)
    obtain ⟨y, hy⟩ := h n (by omega)
    refine ⟨xs ++ [y], by simp [h1], fun i x hx => ?_⟩
    by_cases hi : i < n
    · rw [List.getElem?_append_left (by omega)] at hx
      exact h2 i x hx
    · have : i = n := by
        have := (List.getElem?_eq_some_iff.1 hx).1
        simp at this; omega
      subst this
      rw [List.getElem?_append_right (by omega), h1] at hx
      simp at hx
      exact hx ▸ hy
theorem mapM_get {α β : Type} {f : α → Option β} : ∀ {l : List α} {r : List β}, l.mapM f = some r → r.length = l.length ∧ ∀ (i : Nat) (x : α), l[i]? = some x → f x = r[i]?
  | [], r, h => by simp at h; subst h; simp
  | y :: l, r, h => by
    simp only [List.mapM_cons, Option.bind_eq_bind, Option.pure_def] at h
    cases hy : f y with
    | none => simp [hy] at h
    | some z =>
      cases hl : l.mapM f with
      | none => simp [hy, hl] at h
      | some rs =>
        simp [hy, hl] at h
        subst h
        obtain ⟨a, b⟩ := mapM_get hl
        refine ⟨by simp [a], fun i x hx => ?_⟩
        cases i with
        | zero => simp at hx; subst hx; simpa using hy
        | succ i => simp at hx; simpa using b i x hx
theorem cells_get {base : Nat} {a : Addr} {n : Nat} {cs : List Value} (h : w.cells? base a n = some cs) : cs.length = n ∧ ∀ j v, cs[j]? = some v → w.cell? (a.add j) = some v := by
  unfold World.cells? at h
  split at h
  · obtain ⟨h1, h2⟩ := mapM_get h
    refine ⟨by simpa using h1, fun j v hv => ?_⟩
    have hj : j < n := by
      have := (List.getElem?_eq_some_iff.1 hv).1
      simp at h1; omega
    have := h2 j j (by simp [hj])
    rw [this, hv]
  · cases h
/-- A slice of elements that are told as 'enc' says, R of each. -/
theorem open_sliceL {α : Type} {ec : α → List Value} {R : α → Prop} {e : TypeId} {sz by_ : Nat} (ht : P.underlying t = some (.slice e)) (hc : P.cellsOf e = sz) (hb : P.bytesOf e = by_) (h0 : 0 < sz)
    (h : DataW.trod enc P w 0 spare held fuel t cs = some x) (hs : Sz P t x.1)
    (one : ∀ n cs y, DataW.trod enc P w 0 spare held n e cs = some y → Sz P e y.1 → ∃ z : α, cs = ec z ∧ R z) :
    ∃ v xs, cs = [v] ∧ ReadL w v sz ec xs ∧ (∀ z ∈ xs, R z) ∧ xs.length * by_ ≤ reachBytes := by
  subst hc; subst hb
  rcases DataW.trod_slice ht h with ⟨rfl, rfl⟩ | ⟨a, len, cap, elems, rest, n, rfl, rfl, rfl, hb, hl, hm, hel, hget, _, _⟩
  · exact ⟨_, [], rfl, ⟨by simp, none, 0, rfl, by simp, fun h => absurd h (by simp)⟩, fun z hz => by simp at hz, by simp⟩
  · obtain ⟨s1, s2⟩ := Sz.slice ht hs
    simp only [List.length_map] at s1
    have hel' : ∀ i, i < len → ∃ z : α, R z ∧ ∀ j v, (ec z)[j]? = some v → w.cell? ((a.add (i * P.cellsOf e)).add j) = some v := by
      intro i hi
      have h1 := hget i hi
      have h2 : ∃ y, elems[i]? = some y := ⟨_, List.getElem?_eq_getElem (by omega)⟩
      obtain ⟨y, hy⟩ := h2
      rw [hy] at h1
      obtain ⟨cs', c1, c2⟩ := Option.bind_eq_some_iff.1 h1
      obtain ⟨z, rfl, hz⟩ := one n cs' y c2 (s2 y.1 (List.mem_map_of_mem (List.mem_of_getElem? hy)))
      exact ⟨z, hz, (cells_get c1).2⟩
    have hlen' : ∀ i, i < len → ∃ z : α, (R z ∧ ∀ j v, (ec z)[j]? = some v → w.cell? ((a.add (i * P.cellsOf e)).add j) = some v) ∧ (ec z).length = P.cellsOf e := by
      intro i hi
      have h1 := hget i hi
      obtain ⟨y, hy⟩ : ∃ y, elems[i]? = some y := ⟨_, List.getElem?_eq_getElem (by omega)⟩
      rw [hy] at h1
      obtain ⟨cs', c1, c2⟩ := Option.bind_eq_some_iff.1 h1
      obtain ⟨z, rfl, hz⟩ := one n cs' y c2 (s2 y.1 (List.mem_map_of_mem (List.mem_of_getElem? hy)))
      exact ⟨z, ⟨hz, (cells_get c1).2⟩, (cells_get c1).1⟩
    obtain ⟨xs, hx1, hx2⟩ := exists_list hlen'
    have hfl : ∀ ys : List α, (∀ z ∈ ys, (ec z).length = P.cellsOf e) → (ys.flatMap ec).length = ys.length * P.cellsOf e ∧ ∀ q v, (ys.flatMap ec)[q]? = some v → ∃ i j z, q = i * P.cellsOf e + j ∧ ys[i]? = some z ∧ (ec z)[j]? = some v := by
      intro ys
      induction ys with
      | nil => intro _; simp
      | cons y ys ih =>
        intro hy
        obtain ⟨i1, i2⟩ := ih fun z hz => hy z (List.mem_cons_of_mem _ hz)
        have hy0 := hy y List.mem_cons_self
        refine ⟨by rw [List.flatMap_cons, List.length_append, hy0, i1, List.length_cons, Nat.add_mul]; omega, fun q v hv => ?_⟩
        rw [List.flatMap_cons] at hv
        by_cases hq : q < P.cellsOf e
        · rw [List.getElem?_append_left (by omega)] at hv
          exact ⟨0, q, y, by simp, rfl, hv⟩
        · rw [List.getElem?_append_right (by omega), hy0] at hv
          obtain ⟨i, j, z, e1, e2, e3⟩ := i2 _ v hv
          exact ⟨i + 1, j, z, by rw [Nat.add_mul]; omega, by simpa using e2, e3⟩
    have hxl : ∀ z ∈ xs, (ec z).length = P.cellsOf e := fun z hz => by
      obtain ⟨i, hi, hz'⟩ := List.getElem_of_mem hz
      exact (hx2 i z (by rw [List.getElem?_eq_getElem hi, hz'])).2
    obtain ⟨f1, f2⟩ := hfl xs hxl
    have hreach : (len + rest.length) * P.bytesOf e ≤ reachBytes := by rw [← hel]; exact s1
    refine ⟨_, xs, rfl, ⟨f1, some a, cap, by rw [hx1], ?_, fun hpos => ?_⟩, fun z hz => ?_, ?_⟩
    · rw [hx1]; simp only [maxLen] at hm; omega
    · -- the address has no spot
      obtain ⟨z0, hz0⟩ : ∃ z, xs[0]? = some z := ⟨_, List.getElem?_eq_getElem hpos⟩
      have hl0 := hxl z0 (List.mem_of_getElem? hz0)
      obtain ⟨u, hu⟩ : ∃ u, (ec z0)[0]? = some u := ⟨_, List.getElem?_eq_getElem (by omega)⟩
      have hcell := (hx2 0 z0 hz0).1.2 0 u hu
      have ha0 : (a.add (0 * P.cellsOf e)).add 0 = a := by simp [Addr.add]
      rw [ha0] at hcell
      obtain ⟨b, o, sp⟩ := a
      have hsp : sp = none := by
        unfold World.cell? at hcell
        split at hcell
        · cases sp with
          | none => rfl
          | some s => simp at hcell
        · cases hcell
      subst hsp
      refine ⟨b, o, rfl, fun q v hv => ?_⟩
      obtain ⟨i, j, z, rfl, e2, e3⟩ := f2 q v hv
      have := (hx2 i z e2).1.2 j v e3
      rw [add_lit, add_lit, Nat.add_assoc] at this
      exact this
    · obtain ⟨i, hi, hz'⟩ := List.getElem_of_mem hz
      exact (hx2 i z (by rw [List.getElem?_eq_getElem hi, hz'])).1.1
    · rw [hx1]
      exact Nat.le_trans (Nat.mul_le_mul_right _ (Nat.le_add_right _ _)) hreach
/-- The parts of a struct, one by one. -/
theorem open_structL {fs : Array Field} (ht : P.underlying t = some (.struct fs)) (h : DataW.trod enc P w 0 spare held fuel t cs = some x) (hs : Sz P t x.1) :
    cs.length = P.cellsOf t ∧ ∀ (j : Nat) (f : Field), fs[j]? = some f → ∃ n y, DataW.trod enc P w 0 spare held n f.type ((cs.drop f.offset).take (P.cellsOf f.type)) = some y ∧ Sz P f.type y.1 := by
  obtain ⟨xs, n, rfl, hx, h1, h2, h3⟩ := DataW.trod_struct ht h
  refine ⟨h1, fun j f hf => ?_⟩
  have hj : j < fs.size := (Array.getElem?_eq_some_iff.1 hf).1
  obtain ⟨y, hy⟩ : ∃ y, xs[j]? = some y := ⟨_, List.getElem?_eq_getElem (by omega)⟩
  refine ⟨n, y, by rw [h3 j f hf, hy], ?_⟩
  rw [hx] at hs
  exact Sz.struct ht hs hf (by simp [hy])
theorem agg_of_cells {v : Value} {n : Nat} (h : v.cells.toList.length = n) (h2 : Nat.blt 1 n = true) : v = .agg v.cells.toList.toArray := by
  have h2' : 1 < n := by simpa using h2
  cases v <;> simp [Value.cells] at h ⊢ <;> omega
end
end Go.Proofs.Ytkmjldihlgchdaa.M
