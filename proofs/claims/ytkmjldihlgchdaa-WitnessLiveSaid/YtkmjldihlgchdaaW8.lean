/- The row's summary, as our readers have it. -/
import Derived.Test.YtkmjldihlgchdaaW7
import Derived.Test.YtkmjldihlgchdaaL12
set_option linter.all false
set_option linter.unusedVariables false
set_option linter.unusedSimpArgs false
set_option maxRecDepth 10000
namespace Go.Proofs.Ytkmjldihlgchdaa.M
variable {H : Type} {enc : TypeId × Value → H} {w : World} {spare : Nat → Bool} {held : Bool}
theorem id_of {n : Nat} {cs : List Value} {y : DataW H × List MemPlace} (h : DataW.trod enc Try.prog w 0 spare held n 24 cs = some y) (hs : Sz Try.prog 24 y.1) : ∃ z : Int × Int, cs = idc z ∧ True := by
  obtain ⟨h1, h2⟩ := open_structL Try.underlying24 h hs
  have hc : Try.prog.cellsOf 24 = 2 := by kernel_rfl
  rw [hc] at h1
  obtain ⟨c0, c1, rfl⟩ : ∃ a b, cs = [a, b] := by
    match cs, h1 with
    | [a, b], _ => exact ⟨a, b, rfl⟩
  obtain ⟨n0, y0, e0, s0⟩ := h2 0 _ rfl
  obtain ⟨n1, y1, e1, s1⟩ := h2 1 _ rfl
  have k3 : Try.prog.cellsOf 3 = 1 := by kernel_rfl
  have k22 : Try.prog.cellsOf 22 = 1 := by kernel_rfl
  have e0 : DataW.trod enc Try.prog w 0 spare held n0 3 (([c0, c1].drop 0).take (Try.prog.cellsOf 3)) = some y0 := e0
  have e1 : DataW.trod enc Try.prog w 0 spare held n1 22 (([c0, c1].drop 1).take (Try.prog.cellsOf 22)) = some y1 := e1
  simp only [k3, k22] at e0 e1
  obtain ⟨a, ha, _⟩ := DataW.trod_int Try.underlying3 e0
  obtain ⟨b, hb, _⟩ := DataW.trod_int Try.underlying22 e1
  simp at ha hb
  subst ha; subst hb
  exact ⟨(a, b), rfl, trivial⟩
theorem num_of {n : Nat} {cs : List Value} {y : DataW H × List MemPlace} (h : DataW.trod enc Try.prog w 0 spare held n 22 cs = some y) (hs : Sz Try.prog 22 y.1) : ∃ z : Int, cs = numc z ∧ True := by
  obtain ⟨b, hb, _⟩ := DataW.trod_int Try.underlying22 h
  exact ⟨b, hb, trivial⟩
theorem out_of {n : Nat} {cs : List Value} {y : DataW H × List MemPlace} (h : DataW.trod enc Try.prog w 0 spare held n 47 cs = some y) (hs : Sz Try.prog 47 y.1) : ∃ z : (Int × Int) × Int, cs = outc z ∧ True := by
  obtain ⟨h1, h2⟩ := open_structL Try.underlying47 h hs
  have hc : Try.prog.cellsOf 47 = 3 := by kernel_rfl
  rw [hc] at h1
  obtain ⟨c0, c1, c2, rfl⟩ : ∃ a b c, cs = [a, b, c] := by
    match cs, h1 with
    | [a, b, c], _ => exact ⟨a, b, c, rfl⟩
  obtain ⟨n0, y0, e0, s0⟩ := h2 0 _ rfl
  obtain ⟨n1, y1, e1, s1⟩ := h2 1 _ rfl
  have k3 : Try.prog.cellsOf 3 = 1 := by kernel_rfl
  have k24 : Try.prog.cellsOf 24 = 2 := by kernel_rfl
  have e0 : DataW.trod enc Try.prog w 0 spare held n0 24 (([c0, c1, c2].drop 0).take (Try.prog.cellsOf 24)) = some y0 := e0
  have e1 : DataW.trod enc Try.prog w 0 spare held n1 3 (([c0, c1, c2].drop 2).take (Try.prog.cellsOf 3)) = some y1 := e1
  simp only [k3, k24] at e0 e1
  obtain ⟨z, hz, _⟩ := id_of e0 s0
  obtain ⟨b, hb, _⟩ := DataW.trod_int Try.underlying3 e1
  simp [idc] at hz hb
  obtain ⟨rfl, rfl⟩ := hz
  subst hb
  exact ⟨(z, b), rfl, trivial⟩
def RwOk (w : World) (r : Rw) : Prop := ReadL w r.v 2 idc r.outs ∧ r.outs.length * 16 ≤ 140737488351232
theorem rw_of {n : Nat} {cs : List Value} {y : DataW H × List MemPlace} (h : DataW.trod enc Try.prog w 0 spare held n 45 cs = some y) (hs : Sz Try.prog 45 y.1) : ∃ z : Rw, cs = rwc z ∧ RwOk w z := by
  obtain ⟨h1, h2⟩ := open_structL Try.underlying45 h hs
  have hc : Try.prog.cellsOf 45 = 2 := by kernel_rfl
  rw [hc] at h1
  obtain ⟨c0, c1, rfl⟩ : ∃ a b, cs = [a, b] := by
    match cs, h1 with
    | [a, b], _ => exact ⟨a, b, rfl⟩
  obtain ⟨n0, y0, e0, s0⟩ := h2 0 _ rfl
  obtain ⟨n1, y1, e1, s1⟩ := h2 1 _ rfl
  have k22 : Try.prog.cellsOf 22 = 1 := by kernel_rfl
  have k43 : Try.prog.cellsOf 43 = 1 := by kernel_rfl
  have e0 : DataW.trod enc Try.prog w 0 spare held n0 22 (([c0, c1].drop 0).take (Try.prog.cellsOf 22)) = some y0 := e0
  have e1 : DataW.trod enc Try.prog w 0 spare held n1 43 (([c0, c1].drop 1).take (Try.prog.cellsOf 43)) = some y1 := e1
  simp only [k22, k43] at e0 e1
  obtain ⟨a, ha, _⟩ := DataW.trod_int Try.underlying22 e0
  obtain ⟨v, xs, hv, hr, _, hb⟩ := open_sliceL (ec := idc) (R := fun _ => True) (sz := 2) (by_ := 16) Try.underlying43 (by kernel_rfl) (by kernel_rfl) (by omega) e1 s1 (fun n cs y h hs => id_of h hs)
  simp at ha hv
  subst ha; subst hv
  exact ⟨⟨a, c1, xs⟩, rfl, hr, hb⟩
/-- The summary that an argument is. -/
theorem sm_of {v : Value} {d : DataW H} {ps : List MemPlace} (h : DataW.Trod enc Try.prog w 0 spare held 28 v d ps) (hs : Sz Try.prog 28 d) :
    ∃ s : Sm, v = .agg s.cs.toArray ∧ s.At w ∧ s.rows.length * 32 ≤ 140737488351232 ∧ (∀ r ∈ s.rows, r.outs.length * 16 ≤ 140737488351232) ∧ s.outs.length * 24 ≤ 140737488351232 := by
  obtain ⟨n, h⟩ := h
  obtain ⟨h1, h2⟩ := open_structL Try.underlying28 h hs
  have hc : Try.prog.cellsOf 28 = 4 := by kernel_rfl
  rw [hc] at h1
  have hv := agg_of_cells h1 rfl
  generalize v.cells.toList = cs at *
  subst hv
  obtain ⟨c0, c1, c2, c3, rfl⟩ : ∃ a b c d, cs = [a, b, c, d] := by
    match cs, h1 with
    | [a, b, c, d], _ => exact ⟨a, b, c, d, rfl⟩
  obtain ⟨n0, y0, e0, s0⟩ := h2 0 _ rfl
  obtain ⟨n1, y1, e1, s1⟩ := h2 1 _ rfl
  obtain ⟨n2, y2, e2, s2⟩ := h2 2 _ rfl
  obtain ⟨n3, y3, e3, s3⟩ := h2 3 _ rfl
  have k22 : Try.prog.cellsOf 22 = 1 := by kernel_rfl
  have k25 : Try.prog.cellsOf 25 = 1 := by kernel_rfl
  have k26 : Try.prog.cellsOf 26 = 1 := by kernel_rfl
  have k4 : Try.prog.cellsOf 4 = 1 := by kernel_rfl
  have e0 : DataW.trod enc Try.prog w 0 spare held n0 22 (([c0, c1, c2, c3].drop 0).take (Try.prog.cellsOf 22)) = some y0 := e0
  have e1 : DataW.trod enc Try.prog w 0 spare held n1 25 (([c0, c1, c2, c3].drop 1).take (Try.prog.cellsOf 25)) = some y1 := e1
  have e2 : DataW.trod enc Try.prog w 0 spare held n2 26 (([c0, c1, c2, c3].drop 2).take (Try.prog.cellsOf 26)) = some y2 := e2
  have e3 : DataW.trod enc Try.prog w 0 spare held n3 4 (([c0, c1, c2, c3].drop 3).take (Try.prog.cellsOf 4)) = some y3 := e3
  simp only [k22, k25, k26, k4] at e0 e1 e2 e3
  obtain ⟨a, ha, _⟩ := DataW.trod_int Try.underlying22 e0
  obtain ⟨v1, xs, hv1, hr1, hq1, hb1⟩ := open_sliceL (ec := rwc) (R := RwOk w) (sz := 2) (by_ := 32) Try.underlying25 (by kernel_rfl) (by kernel_rfl) (by omega) e1 s1 (fun n cs y h hs => rw_of h hs)
  obtain ⟨v2, os, hv2, hr2, _, hb2⟩ := open_sliceL (ec := outc) (R := fun _ => True) (sz := 3) (by_ := 24) Try.underlying26 (by kernel_rfl) (by kernel_rfl) (by omega) e2 s2 (fun n cs y h hs => out_of h hs)
  obtain ⟨b, hb, _⟩ := DataW.trod_bool Try.underlying4 e3
  simp at ha hv1 hv2 hb
  subst ha; subst hv1; subst hv2; subst hb
  exact ⟨⟨a, c1, xs, c2, os, b⟩, rfl, ⟨hr1, fun r hr => (hq1 r hr).1, hr2⟩, hb1, fun r hr => (hq1 r hr).2, hb2⟩
/-- A slice of numbers. -/
theorem nums_of {v : Value} {d : DataW H} {ps : List MemPlace} (h : DataW.Trod enc Try.prog w 0 spare held 30 v d ps) (hs : Sz Try.prog 30 d) {c : Value} (hv : v.cells.toList = [c]) :
    ∃ xs, ReadL w c 1 numc xs ∧ xs.length * 8 ≤ 140737488351232 := by
  obtain ⟨n, h⟩ := h
  obtain ⟨u, xs, hu, hr, _, hb⟩ := open_sliceL (ec := numc) (R := fun _ => True) (sz := 1) (by_ := 8) Try.underlying30 (by kernel_rfl) (by kernel_rfl) (by omega) h hs (fun n cs y h hs => num_of h hs)
  rw [hv] at hu
  simp at hu
  subst hu
  exact ⟨xs, hr, hb⟩
end Go.Proofs.Ytkmjldihlgchdaa.M
