/- Slices of our own: an element read, an element written. -/
import Derived.Test.YtkmjldihlgchdaaL11
set_option linter.unusedVariables false
set_option linter.unusedSimpArgs false
namespace Go.Proofs.Ytkmjldihlgchdaa.M
/-- The slice of our own that begins at b, o. -/
class SliceBk (L : List HP) (b o : Nat) (n c E sz : outParam Nat) (cs : outParam (List Value)) (Ls : outParam (List HP)) : Prop where h : Take L (sliceP (.slice (some ⟨b, o, none⟩) n c) E sz n cs) Ls
instance (priority := high) sliceBkHere {L : List HP} {b o n c E sz : Nat} {cs : List Value} : SliceBk (sliceP (.slice (some ⟨b, o, none⟩) n c) E sz n cs :: L) b o n c E sz cs L := ⟨.here⟩
instance (priority := low) sliceBkThere {L Ls : List HP} {A : HP} {b o n c E sz : Nat} {cs : List Value} [h : SliceBk L b o n c E sz cs Ls] : SliceBk (A :: L) b o n c E sz cs (A :: Ls) := ⟨.there h.h⟩
section
variable {P : Program} {k : World} {N : Nat} {Q : Exit → Act → World → Prop} {next : Env → List HP → Prop} {e : Env} {L : List HP} {d : Option Nat} {ty : Nat} {ps : String} {af : Array Edge} {g : Option (Nat × Bool)} {t : Nat}
theorem Sat.slice_ptr {w : World} {p : Option Addr} {n c E sz : Nat} {cs : List Value} (hs : Sat k w (sliceP (.slice p n c) E sz n cs :: L)) (hn : 0 < n) : ∃ b o, p = some ⟨b, o, none⟩ ∧ n ≤ c := by
  refine hs.known fun h ⟨h1, h2, h3⟩ => ?_
  rcases h3 with ⟨hv, h0⟩ | ⟨b, o, cap, pre, post, hv, hc, _⟩
  · omega
  · simp only [Value.slice.injEq, true_and] at hv
    obtain ⟨rfl, rfl⟩ := hv
    exact ⟨b, o, rfl, hc⟩
theorem Sat.slice_ptr' {w : World} {p : Option Addr} {n c E sz : Nat} {cs : List Value} {Ls : List HP} (hs : Sat k w L) (hn : 0 < n) [h : SliceTk L (.slice p n c) E sz n cs Ls] : ∃ b o, p = some ⟨b, o, none⟩ ∧ n ≤ c := (hs.take h.h).slice_ptr hn
/-- One cell of what reads. -/
theorem OV.loadR {T b o n c sz j : Nat} {cs : List Value} {dd : TypeDesc} {x : Operand} {v : Value} [TU P T dd] (ha' : aggD dd = false) (hr : RD k L (.slice (some ⟨b, o, none⟩) n c) sz n cs) (hx : e.ev x = some (.pointer (some ⟨b, o + j, none⟩))) (hv : cs[j]? = some v) :
    OV P k N e L ⟨d, .load T x, ty, ps, af, g⟩ v := fun a w ha hs => by
  obtain ⟨h1, p, c', h2, h3, h4⟩ := hr.h w hs
  have hj := (List.getElem?_eq_some_iff.1 hv).1
  have hn : 0 < n := by
    rcases Nat.eq_zero_or_pos n with h | h
    · subst h; simp at h1; subst h1; simp at hj
    · exact h
  obtain ⟨b', o', h5, h6⟩ := h4 hn
  simp only [Value.slice.injEq, true_and] at h2
  obtain ⟨rfl, rfl⟩ := h2
  simp only [Option.some.injEq, Addr.mk.injEq, and_true] at h5
  obtain ⟨rfl, rfl⟩ := h5
  simp [execOp, ha.ev hx, Instr.loadAt, Instr.sureAddr, run_load1 ha' (h6 j v hv)]
/-- One cell of a slice of our own is written. -/
theorem WOX.storeS {T b o n c sz E j by_ m : Nat} {z v : Value} {cs : List Value} {x y : Operand} {Ls : List HP} [TI P T m by_ z] (hm : m = 1) (hx : e.ev x = some (.pointer (some ⟨b, o + j, none⟩))) (hy : e.ev y = some v) (h1 : v.oneCell' = true)
    [hL : SliceBk L b o n c E sz cs Ls] (hj : j < cs.length)
    (h : next e (sliceP (.slice (some ⟨b, o, none⟩) n c) E sz n (cs.set j v) :: Ls)) : WOX P k N Q ⟨none, .store T x y, ty, ps, af, g⟩ next e L :=
  WOX.does0 rfl fun a w ha hs => by
    obtain ⟨h0, f, hh, f1, f2, hd, hu, ⟨a1, a2, a3⟩, q⟩ := hs.take hL.h
    rcases a3 with ⟨hv, hn⟩ | ⟨b', o', cap, pre, post, hv, c1, c2, c3, c4, c5⟩
    · subst hn; simp at a1; subst a1; simp at hj
    · simp only [Value.slice.injEq, Option.some.injEq, Addr.mk.injEq, and_true, true_and] at hv
      obtain ⟨⟨rfl, rfl⟩, rfl⟩ := hv
      have hsr : Sat k w (cellsP b E (pre ++ cs ++ post) :: Ls) := ⟨h0, f, hh, f1, f2, hd, hu, c5, q⟩
      have hlt : o + j < (pre ++ cs ++ post).length := by simp [c3]; omega
      have hset : (pre ++ cs ++ post).set (o + j) v = pre ++ cs.set j v ++ post := by
        rw [List.append_assoc, List.set_append_right _ _ (by omega), c3, Nat.add_sub_cancel_left, List.set_append_left _ _ hj, List.append_assoc]
      have := run_store1 (P := P) (T := T) h1 hm hsr.read hlt
      rw [hset] at this
      refine ⟨_, _, .inl ?_, (hsr.setRow (cs' := pre ++ cs.set j v ++ post)).imp fun h hp => ⟨by rw [List.length_set]; exact a1, a2, .inr ⟨b, o, c, pre, post, rfl, c1, c2, c3, c4, hp⟩⟩, h⟩
      simp [execOp, ha.ev hx, ha.ev hy, Instr.storeAt, Instr.sureAddr, this]
end
end Go.Proofs.Ytkmjldihlgchdaa.M
