/- Rows of numbers, as arrays: what the sorts work on. -/
import Derived.Test.YtkmjldihlgchdaaL13
set_option linter.unusedVariables false
set_option linter.unusedSimpArgs false
namespace Go.Proofs.Ytkmjldihlgchdaa.M
/-- n numbers of kind kk (cells of type E) from b, o on: D. -/
def arrP (E : Nat) (kk : IntKind) (b o n c : Nat) (D : Array Int) : HP := fun h => D.size = n ∧ sliceP (.slice (some ⟨b, o, none⟩) n c) E 1 n (D.toList.map (.int kk)) h
class ArrAt (L : List HP) (b o : Nat) (E : outParam Nat) (kk : outParam IntKind) (n c : outParam Nat) (D : outParam (Array Int)) (Lf : outParam (Array Int → List HP)) : Prop where h : ∀ D', Upd L (arrP E kk b o n c D) (arrP E kk b o n c D') (Lf D')
instance (priority := high) arrHere {L : List HP} {b o n c E : Nat} {kk : IntKind} {D : Array Int} : ArrAt (arrP E kk b o n c D :: L) b o E kk n c D (fun D' => arrP E kk b o n c D' :: L) := ⟨fun _ => .here⟩
instance (priority := low) arrThere {L : List HP} {A : HP} {b o n c E : Nat} {kk : IntKind} {D : Array Int} {Lf : Array Int → List HP} [h : ArrAt L b o E kk n c D Lf] : ArrAt (A :: L) b o E kk n c D (fun D' => A :: Lf D') := ⟨fun D' => .there (h.h D')⟩
section
variable {P : Program} {k : World} {N : Nat} {Q : Exit → Act → World → Prop} {next : Env → List HP → Prop} {e : Env} {L : List HP} {d : Option Nat} {ty : Nat} {ps : String} {af : Array Edge} {g : Option (Nat × Bool)} {t : Nat}
theorem Sat.arr {w : World} {E b o n c : Nat} {kk : IntKind} {D : Array Int} (hs : Sat k w (arrP E kk b o n c D :: L)) : D.size = n ∧ Sat k w (sliceP (.slice (some ⟨b, o, none⟩) n c) E 1 n (D.toList.map (.int kk)) :: L) := hs.fact
theorem Sat.unarr {w : World} {E b o n c : Nat} {kk : IntKind} {D : Array Int} (hs : Sat k w (sliceP (.slice (some ⟨b, o, none⟩) n c) E 1 n (D.toList.map (.int kk)) :: L)) (h : D.size = n) : Sat k w (arrP E kk b o n c D :: L) := hs.imp fun f hf => ⟨h, hf⟩
theorem OV.ldD {T b o n c q E : Nat} {kk : IntKind} {D : Array Int} {dd : TypeDesc} {x : Operand} {Lf : Array Int → List HP} [TU P T dd] (ha' : aggD dd = false) (hx : e.ev x = some (.pointer (some ⟨b, o + q * 1, none⟩))) [hL : ArrAt L b o E kk n c D Lf] (hq : q < n) :
    OV P k N e L ⟨d, .load T x, ty, ps, af, g⟩ (.int kk D[q]!) := fun a w ha hs => by
  obtain ⟨R, p1, _⟩ := (hL.h D).perm
  obtain ⟨hD, h2⟩ := (hs.perm p1).arr
  obtain ⟨h1, p, c', e1, h3, h4⟩ := h2.slice_reads
  obtain ⟨b', o', h5, h6⟩ := h4 (by omega)
  simp only [Value.slice.injEq, true_and] at e1
  obtain ⟨rfl, rfl⟩ := e1
  simp only [Option.some.injEq, Addr.mk.injEq, and_true] at h5
  obtain ⟨rfl, rfl⟩ := h5
  have hv : (D.toList.map (Value.int kk))[q]? = some (.int kk D[q]!) := by
    rw [List.getElem?_map]
    have : D.toList[q]? = some D[q]! := by
      rw [Array.getElem?_toList]
      simp [Array.getElem!_eq_getD, hD, hq]
    rw [this]; rfl
  have := h6 q _ hv
  rw [Nat.mul_one] at hx
  simp [execOp, ha.ev hx, Instr.loadAt, Instr.sureAddr, run_load1 ha' this]
theorem WOX.stD {T b o n c q E m by_ : Nat} {kk : IntKind} {z : Value} {u : Int} {D : Array Int} {x y : Operand} {Lf : Array Int → List HP} [TI P T m by_ z] (hx : e.ev x = some (.pointer (some ⟨b, o + q * 1, none⟩))) [hL : ArrAt L b o E kk n c D Lf] (hy : e.ev y = some (.int kk u)) (hm : m = 1) (hq : q < n)
    (h : next e (Lf (D.setIfInBounds q u))) : WOX P k N Q ⟨none, .store T x y, ty, ps, af, g⟩ next e L :=
  WOX.does0 rfl fun a w ha hs => by
    obtain ⟨R, p1, p2⟩ := (hL.h (D.setIfInBounds q u)).perm
    obtain ⟨hD, h2⟩ := (hs.perm p1).arr
    obtain ⟨h0, f, hh, f1, f2, hd, hu, ⟨a1, a2, a3⟩, r⟩ := h2
    rcases a3 with ⟨hv, hn⟩ | ⟨b', o', cap, pre, post, hv, c1, c2, c3, c4, c5⟩
    · cases hv
    · simp only [Value.slice.injEq, Option.some.injEq, Addr.mk.injEq, and_true, true_and] at hv
      obtain ⟨⟨rfl, rfl⟩, rfl⟩ := hv
      have hsr : Sat k w (cellsP b E (pre ++ D.toList.map (.int kk) ++ post) :: R) := ⟨h0, f, hh, f1, f2, hd, hu, c5, r⟩
      have hlt : o + q < (pre ++ D.toList.map (Value.int kk) ++ post).length := by simp [c3, hD]; omega
      have hset : (pre ++ D.toList.map (Value.int kk) ++ post).set (o + q) (.int kk u) = pre ++ (D.setIfInBounds q u).toList.map (.int kk) ++ post := by
        rw [List.append_assoc, List.set_append_right _ _ (by omega), c3, Nat.add_sub_cancel_left, List.set_append_left _ _ (by simp [hD, hq]), List.append_assoc, Array.toList_setIfInBounds, List.map_set]
      have := run_store1 (P := P) (T := T) (v := .int kk u) rfl hm hsr.read hlt
      rw [hset] at this
      rw [Nat.mul_one] at hx
      refine ⟨_, _, .inl ?_, ((hsr.setRow (cs' := pre ++ (D.setIfInBounds q u).toList.map (.int kk) ++ post)).imp fun h hp => ⟨by simpa using hD, by simp [hD], a2, .inr ⟨b, o, c, pre, post, rfl, c1, c2, c3, c4, hp⟩⟩).perm p2.symm, h⟩
      simp [execOp, ha.ev hx, ha.ev hy, Instr.storeAt, Instr.sureAddr, this]
end
end Go.Proofs.Ytkmjldihlgchdaa.M
