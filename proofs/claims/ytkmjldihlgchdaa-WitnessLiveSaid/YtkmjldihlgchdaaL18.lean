/- Rows of numbers: parts of them read, written, cleared. -/
import Derived.Test.YtkmjldihlgchdaaL17
set_option linter.unusedVariables false
set_option linter.unusedSimpArgs false
namespace Go.Proofs.Ytkmjldihlgchdaa.M
/-- The row in block b, wherever it begins. -/
class ArrB (L : List HP) (b : Nat) (o E : outParam Nat) (kk : outParam IntKind) (n c : outParam Nat) (D : outParam (Array Int)) (Lf : outParam (Array Int → List HP)) : Prop where h : ∀ D', Upd L (arrP E kk b o n c D) (arrP E kk b o n c D') (Lf D')
instance (priority := high) arrBHere {L : List HP} {b o n c E : Nat} {kk : IntKind} {D : Array Int} : ArrB (arrP E kk b o n c D :: L) b o E kk n c D (fun D' => arrP E kk b o n c D' :: L) := ⟨fun _ => .here⟩
instance (priority := low) arrBThere {L : List HP} {A : HP} {b o n c E : Nat} {kk : IntKind} {D : Array Int} {Lf : Array Int → List HP} [h : ArrB L b o E kk n c D Lf] : ArrB (A :: L) b o E kk n c D (fun D' => A :: Lf D') := ⟨fun D' => .there (h.h D')⟩
section
variable {P : Program} {k : World} {N : Nat} {Q : Exit → Act → World → Prop} {next : Env → List HP → Prop} {e : Env} {L : List HP} {d : Option Nat} {ty : Nat} {ps : String} {af : Array Edge} {g : Option (Nat × Bool)} {t : Nat}
theorem Sat.arr_cells {w : World} {E b o n c : Nat} {kk : IntKind} {D : Array Int} (hs : Sat k w (arrP E kk b o n c D :: L)) : D.size = n ∧ n ≤ c ∧ c ≤ maxLen ∧ ∃ pre post : List Value, pre.length = o ∧ post.length = c - n ∧ Sat k w (cellsP b E (pre ++ D.toList.map (.int kk) ++ post) :: L) := by
  obtain ⟨hD, h2⟩ := hs.arr
  obtain ⟨h0, f, hh, f1, f2, hd, hu, ⟨a1, a2, a3⟩, r⟩ := h2
  rcases a3 with ⟨hv, hn⟩ | ⟨b', o', cap, pre, post, hv, c1, c2, c3, c4, c5⟩
  · cases hv
  · simp only [Value.slice.injEq, Option.some.injEq, Addr.mk.injEq, and_true, true_and] at hv
    obtain ⟨⟨rfl, rfl⟩, rfl⟩ := hv
    exact ⟨hD, c1, c2, pre, post, c3, by simpa using c4, h0, f, hh, f1, f2, hd, hu, c5, r⟩
theorem Sat.arr_of {w : World} {E b o n c : Nat} {kk : IntKind} {D : Array Int} {pre post : List Value} (hs : Sat k w (cellsP b E (pre ++ D.toList.map (.int kk) ++ post) :: L)) (hD : D.size = n) (hc : n ≤ c) (hm : c ≤ maxLen) (h1 : pre.length = o) (h2 : post.length = c - n) : Sat k w (arrP E kk b o n c D :: L) :=
  hs.imp fun f hp => ⟨hD, by simp [hD], by omega, .inr ⟨b, o, c, pre, post, rfl, hc, hm, h1, by simpa using h2, hp⟩⟩
theorem OV.ldq (q : Nat) {T b o a n c E : Nat} {kk : IntKind} {D : Array Int} {dd : TypeDesc} {x : Operand} {Lf : Array Int → List HP} [TU P T dd] (ha' : aggD dd = false) (hx : e.ev x = some (.pointer (some ⟨b, a, none⟩))) [hL : ArrB L b o E kk n c D Lf] (hq : a = o + q ∧ q < n) :
    OV P k N e L ⟨d, .load T x, ty, ps, af, g⟩ (.int kk D[q]!) := fun z w ha hs => by
  obtain ⟨R, p1, _⟩ := (hL.h D).perm
  obtain ⟨hD, _, _, pre, post, l1, l2, h2⟩ := (hs.perm p1).arr_cells
  obtain ⟨rfl, hq⟩ := hq
  have hv : (pre ++ D.toList.map (Value.int kk) ++ post)[o + q]? = some (.int kk D[q]!) := by
    rw [List.append_assoc, List.getElem?_append_right (by omega), List.getElem?_append_left (by simp [hD]; omega), l1, Nat.add_sub_cancel_left, List.getElem?_map]
    have : D.toList[q]? = some D[q]! := by
      rw [Array.getElem?_toList]
      simp [Array.getElem!_eq_getD, hD, hq]
    rw [this]; rfl
  simp [execOp, ha.ev hx, Instr.loadAt, Instr.sureAddr, run_load1 ha' (show w.cell? ⟨b, o + q, none⟩ = some _ by rw [cell_lit h2.read]; simpa using hv)]
theorem WOX.stq (q : Nat) {T b o a n c E m by_ : Nat} {kk : IntKind} {z : Value} {u : Int} {D : Array Int} {x y : Operand} {Lf : Array Int → List HP} [TI P T m by_ z] (hx : e.ev x = some (.pointer (some ⟨b, a, none⟩))) [hL : ArrB L b o E kk n c D Lf] (hy : e.ev y = some (.int kk u)) (hm : m = 1) (hq : a = o + q ∧ q < n)
    (h : next e (Lf (D.setIfInBounds q u))) : WOX P k N Q ⟨none, .store T x y, ty, ps, af, g⟩ next e L :=
  WOX.does0 rfl fun v w ha hs => by
    obtain ⟨R, p1, p2⟩ := (hL.h (D.setIfInBounds q u)).perm
    obtain ⟨hD, hc, hm', pre, post, l1, l2, h2⟩ := (hs.perm p1).arr_cells
    obtain ⟨rfl, hq⟩ := hq
    have hlt : o + q < (pre ++ D.toList.map (Value.int kk) ++ post).length := by simp [l1, hD]; omega
    have hset : (pre ++ D.toList.map (Value.int kk) ++ post).set (o + q) (.int kk u) = pre ++ (D.setIfInBounds q u).toList.map (.int kk) ++ post := by
      rw [List.append_assoc, List.set_append_right _ _ (by omega), l1, Nat.add_sub_cancel_left, List.set_append_left _ _ (by simp [hD, hq]), List.append_assoc, Array.toList_setIfInBounds, List.map_set]
    have := run_store1 (P := P) (T := T) (v := .int kk u) rfl hm h2.read hlt
    rw [hset] at this
    refine ⟨_, _, .inl ?_, ((h2.setRow (cs' := pre ++ (D.setIfInBounds q u).toList.map (.int kk) ++ post)).arr_of (by simpa using hD) hc hm' l1 l2).perm p2.symm, h⟩
    simp [execOp, ha.ev hx, ha.ev hy, Instr.storeAt, Instr.sureAddr, this]
theorem zeroCells_int {z : Value} {kk : IntKind} (hz : z = .int kk 0) (n : Nat) : (Builtin.zeroCells z.cells n).toList = (List.replicate n (0 : Int)).map (.int kk) := by
  subst hz
  simp [Builtin.zeroCells, Value.cells]
  apply List.ext_getElem?
  intro i
  simp [List.getElem?_replicate, List.getElem?_range]
  by_cases h : i < n
  · simp [h, Nat.mod_one]
  · simp [h]
theorem WOX.clearD (l : Nat) {S E E0 by_ m' : Nat} {X : Operand} {b o a n c m c' : Nat} {kk : IntKind} {D : Array Int} {Lf : Array Int → List HP} [TU P S (.slice E)] [TI P E m' by_ (.int kk 0)] (hX : e.ev X = some (.slice (some ⟨b, a, none⟩) m c')) [hL : ArrB L b o E0 kk n c D Lf] (hm : m = n - l ∧ l ≤ n ∧ (0 < m → a = o + l))
    (h : ∀ D', D'.size = n → (∀ q, q < l → D'[q]! = D[q]!) → next e (Lf D')) : WOX P k N Q ⟨none, .call { callee := .builtin .clear, args := #[X], argTypes := #[S] }, ty, ps, af, g⟩ next e L :=
  WOX.does0 rfl fun v w ha hs => by
    obtain ⟨hm1, hm2, hm3⟩ := hm
    have ht := (inferInstance : TU P S (.slice E)).h
    rcases Nat.eq_zero_or_pos m with h0 | h0
    · obtain ⟨R, p1, p2⟩ := (hL.h D).perm
      obtain ⟨hD, _⟩ := (hs.perm p1).arr_cells
      refine ⟨w, _, .inr ⟨.tuple #[], ?_⟩, (hs.perm p1).perm p2.symm, h D hD (fun q _ => rfl)⟩
      subst h0
      simp [execOp, ha.ev hX, resolve, invoke, builtin, Builtin.clear_, run_underlying ht]
    · have ha0 := hm3 h0
      subst ha0
      obtain ⟨D', hD'⟩ : ∃ D' : Array Int, D' = (D.toList.take l ++ List.replicate m 0).toArray := ⟨_, rfl⟩
      obtain ⟨R, p1, p2⟩ := (hL.h D').perm
      obtain ⟨hD, hc, hmx, pre, post, l1, l2, h2⟩ := (hs.perm p1).arr_cells
      have hsz : D'.size = n := by rw [hD']; simp [hD]; omega
      have hz : (zeroValue E).run P w = .ok (.int kk 0) w := run_zero
      have hzc : (Builtin.zeroCells #[Value.int kk 0] m).toList = (List.replicate m (0 : Int)).map (.int kk) := zeroCells_int (z := .int kk 0) rfl m
      have hst := run_storeCells_at P b (o + l) E0 ((List.replicate m (0 : Int)).map (.int kk)) 0 (pre ++ D.toList.map (Value.int kk) ++ post).toArray w h2.read (by simp [l1, hD]; omega) (by intro v hv; obtain ⟨u, _, rfl⟩ := List.mem_map.1 hv; rfl)
      have hrow : (pre ++ D.toList.map (Value.int kk) ++ post).take (o + l) ++ (List.replicate m (0 : Int)).map (.int kk) ++ (pre ++ D.toList.map (Value.int kk) ++ post).drop (o + l + m) = pre ++ D'.toList.map (.int kk) ++ post := by
        rw [hD']
        have e1 : (pre ++ D.toList.map (Value.int kk) ++ post).take (o + l) = pre ++ (D.toList.map (Value.int kk)).take l := by
          rw [List.append_assoc, ← l1, List.take_length_add_append, List.take_append_of_le_length (by simp [hD]; omega)]
        have e2 : (pre ++ D.toList.map (Value.int kk) ++ post).drop (o + l + m) = post := by
          rw [show o + l + m = pre.length + n by omega, List.append_assoc, List.drop_length_add_append, show n = (D.toList.map (Value.int kk)).length by simp [hD], List.drop_left]
        rw [e1, e2]
        simp [List.map_take]
      simp only [Nat.add_zero, List.length_map, List.length_replicate] at hst
      rw [hrow] at hst
      refine ⟨_, _, .inr ⟨.tuple #[], ?_⟩, ((h2.setRow (cs' := pre ++ D'.toList.map (.int kk) ++ post)).arr_of hsz hc hmx l1 l2).perm p2.symm, h D' hsz (fun q hq => ?_)⟩
      · have h0' : m ≠ 0 := by omega
        obtain ⟨m1, rfl⟩ : ∃ m1, m = m1 + 1 := ⟨m - 1, by omega⟩
        simp [execOp, ha.ev hX, resolve, invoke, builtin, Builtin.clear_, run_underlying ht, hz, Value.cells, hzc] 
        simp at hst
        rw [hst]
        simp
      · rw [hD']
        simp [Array.getElem!_eq_getD, Array.getD_eq_getD_getElem?]
        rw [List.getElem?_append_left (by simp [hD]; omega), List.getElem?_take_of_lt hq]
        simp
end
end Go.Proofs.Ytkmjldihlgchdaa.M
