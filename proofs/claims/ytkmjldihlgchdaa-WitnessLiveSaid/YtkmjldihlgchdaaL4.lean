/- Operations that make memory, write it, grow it. -/
import Derived.Test.YtkmjldihlgchdaaL3
set_option linter.unusedVariables false
set_option linter.unusedSimpArgs false
namespace Go.Proofs.Ytkmjldihlgchdaa.M

theorem Sat.cells_new {k w : World} {L : List HP} (hs : Sat k w L) (T : Nat) (cs : List Value) : Sat k (w.alloc (.cells cs.toArray T)) (cellsP w.heap.size T cs :: L) := hs.alloc _
theorem Sat.setRow {k w : World} {b T : Nat} {cs cs' : List Value} {L : List HP} (hs : Sat k w (cellsP b T cs :: L)) : Sat k (w.setRow b cs'.toArray) (cellsP b T cs' :: L) :=
  hs.write rfl rfl rfl (setRow_heap w b _ _ T _ hs.read) fun c hc x hx => by rw [setRow_other w b c _ hc]; exact hx

section
variable {P : Program} {k : World} {N : Nat} {Q : Exit → Act → World → Prop} {next : Env → List HP → Prop} {e : Env} {L : List HP} {d : Option Nat} {ty : Nat} {ps : String} {af : Array Edge} {g : Option (Nat × Bool)} {t : Nat}

theorem WOX.alloc {T n by_ : Nat} {z : Value} {cs : List Value} [TI P T n by_ z] (hz : z.cells = cs.toArray) (ht : Nat.blt t N = true)
    (h : ∀ b, next ((t, .pointer (some ⟨b, 0, none⟩)) :: e) (cellsP b T cs :: L)) : WOX P k N Q ⟨some t, .alloc T, ty, ps, af, g⟩ next e L :=
  WOX.does rfl ht fun a w ha hs => by
    refine ⟨_, _, _, ?_, hs.cells_new T cs, h w.heap.size⟩
    simp [execOp, Instr.alloc, run_zero, newVar, newRow, hz]
theorem WOX.box {T : Nat} {x : Operand} {v : Value} {cs : List Value} (hx : e.ev x = some v) (hz : v.cells = cs.toArray) (ht : Nat.blt t N = true)
    (h : ∀ b, next ((t, .pointer (some ⟨b, 0, none⟩)) :: e) (cellsP b T cs :: L)) : WOX P k N Q ⟨some t, .box T x, ty, ps, af, g⟩ next e L :=
  WOX.does rfl ht fun a w ha hs => by
    refine ⟨_, _, _, ?_, hs.cells_new T cs, h w.heap.size⟩
    simp [execOp, Instr.box, newVar, newRow, hz, ha.ev hx]
/-- One cell is written. -/
theorem run_store1 {T b o B n by_ : Nat} {z v : Value} {cs : List Value} {w : World} [hT : TI P T n by_ z] (h1 : v.oneCell' = true) (hn : n = 1) (hb : w.heap[b]? = some (.cells cs.toArray B (0, 0))) (ho : o < cs.length) :
    (storeVar T ⟨b, o, none⟩ v).run P w = .ok () (w.setRow b (cs.set o v).toArray) := by
  have hc : v.cells = #[v] := by cases v <;> simp_all [Value.oneCell', Value.cells]
  have hst := run_storeCells_at P b o B [v] 0 cs.toArray w hb (by simp; omega) (by simpa using h1)
  subst hn
  simp only [storeVar, Sem.run_bind, run_size, Result.andThen_ok, hc]
  simp only [Nat.add_zero, List.length_singleton] at hst
  have e1 : (cs.toArray.toList.take o ++ [v] ++ cs.toArray.toList.drop (o + 1)).toArray = (cs.set o v).toArray := by
    simp [List.set_eq_take_append_cons_drop, ho]
  simp
  rw [hst, e1]
theorem WOX.store1 {T b o B n by_ : Nat} {z v : Value} {x y : Operand} {cs cs' : List Value} {Lf : List Value → List HP} [TI P T n by_ z] (hx : e.ev x = some (.pointer (some ⟨b, o, none⟩))) (hy : e.ev y = some v) (h1 : v.oneCell' = true) (hn : n = 1)
    [hL : CellUp L b B cs Lf] (ho : Nat.blt o cs.length = true) (hset : cs.set o v = cs')
    (h : next e (Lf cs')) : WOX P k N Q ⟨none, .store T x y, ty, ps, af, g⟩ next e L :=
  WOX.does0 rfl fun a w ha hs => by
    obtain ⟨R, p1, p2⟩ := (hL.h cs').perm
    have hs1 := hs.perm p1
    have ho' : o < cs.length := by simpa using ho
    refine ⟨_, _, .inl ?_, (hs1.setRow (cs' := cs')).perm p2.symm, h⟩
    subst hset
    have := run_store1 (P := P) (T := T) h1 hn hs1.read ho'
    simp [execOp, ha.ev hx, ha.ev hy, Instr.storeAt, Instr.sureAddr, this]
/-- vs over the cells from o on. -/
def overAt (cs : List Value) (o : Nat) (vs : List Value) : List Value := cs.take o ++ vs ++ cs.drop (o + vs.length)
theorem run_storeN {T b o B n by_ : Nat} {z : Value} {cs vs : List Value} {w : World} [hT : TI P T n by_ z] (h1 : ∀ v ∈ vs, v.oneCell' = true) (hn : vs.length = n) (hb : w.heap[b]? = some (.cells cs.toArray B (0, 0))) (ho : o + vs.length ≤ cs.length) :
    (storeVar T ⟨b, o, none⟩ (.agg vs.toArray)).run P w = .ok () (w.setRow b (overAt cs o vs).toArray) := by
  have hst := run_storeCells_at P b o B vs 0 cs.toArray w hb (by simpa using ho) h1
  subst hn
  simp only [storeVar, Sem.run_bind, run_size, Result.andThen_ok, Value.cells]
  simp only [Nat.add_zero] at hst
  simp [overAt]
  rw [hst]
  simp
theorem WOX.storeN {T b o B n by_ : Nat} {z : Value} {x y : Operand} {cs cs' vs : List Value} {Lf : List Value → List HP} [TI P T n by_ z] (hx : e.ev x = some (.pointer (some ⟨b, o, none⟩))) (hy : e.ev y = some (.agg vs.toArray)) (h1 : vs.all (·.oneCell') = true) (hn : vs.length = n)
    [hL : CellUp L b B cs Lf] (ho : Nat.ble (o + vs.length) cs.length = true) (hset : overAt cs o vs = cs')
    (h : next e (Lf cs')) : WOX P k N Q ⟨none, .store T x y, ty, ps, af, g⟩ next e L :=
  WOX.does0 rfl fun a w ha hs => by
    obtain ⟨R, p1, p2⟩ := (hL.h cs').perm
    have hs1 := hs.perm p1
    refine ⟨_, _, .inl ?_, (hs1.setRow (cs' := cs')).perm p2.symm, h⟩
    subst hset
    have := run_storeN (P := P) (T := T) (by simpa using h1) hn hs1.read (by simpa using ho)
    simp [execOp, ha.ev hx, ha.ev hy, Instr.storeAt, Instr.sureAddr, this]
/-- A map that is made. -/
theorem WOX.makeMap {T : Nat} (ht : Nat.blt t N = true) (h : ∀ b, next ((t, .map (some b)) :: e) (pts b (.map #[] 0) :: L)) : WOX P k N Q ⟨some t, .makeMap T none, ty, ps, af, g⟩ next e L :=
  WOX.does rfl ht fun a w ha hs => by
    refine ⟨_, _, _, ?_, hs.alloc (.map #[] 0), h w.heap.size⟩
    simp [execOp, Instr.makeMap]
end

theorem list_over {α : Type} (A B C D : List α) : A ++ (B ++ D) ++ C.drop D.length = (A ++ B ++ C).take (A.length + B.length + 0) ++ D ++ (A ++ B ++ C).drop (A.length + B.length + 0 + D.length) := by
  rw [Nat.add_zero, ← List.length_append, List.take_left, ← List.drop_drop, List.drop_left]
  simp
/-! ## Slices -/
/-- What a slice value reads as, in a world: n elements of sz cells each. -/
def Reads (w : World) (v : Value) (sz n : Nat) (cs : List Value) : Prop :=
  cs.length = n * sz ∧ ∃ p c, v = .slice p n c ∧ n ≤ 9223372036854775807 ∧ (0 < n → ∃ b o, p = some ⟨b, o, none⟩ ∧ ∀ j u, cs[j]? = some u → w.cell? ⟨b, o + j, none⟩ = some u)
theorem Reads.below {w w' : World} {v : Value} {sz n : Nat} {cs : List Value} (h : Reads w v sz n cs) (hb : Go.RowKit.Below w.heap.size w w') : Reads w' v sz n cs := by
  obtain ⟨h1, p, c, h2, h3, h4⟩ := h
  refine ⟨h1, p, c, h2, h3, fun hn => ?_⟩
  obtain ⟨b, o, h5, h6⟩ := h4 hn
  exact ⟨b, o, h5, fun j u hu => by
    have := h6 j u hu
    rw [hb.cell (p := ⟨b, o + j, none⟩) (World.block_lt_of_cell? w _ this)]; exact this⟩
theorem Reads.kept {k w : World} {L : List HP} {v : Value} {sz n : Nat} {cs : List Value} (h : Reads k v sz n cs) (hs : Sat k w L) [OldAt L k] : Reads w v sz n cs := by
  obtain ⟨h1, p, c, h2, h3, h4⟩ := h
  refine ⟨h1, p, c, h2, h3, fun hn => ?_⟩
  obtain ⟨b, o, h5, h6⟩ := h4 hn
  exact ⟨b, o, h5, fun j u hu => hs.old_cell (h6 j u hu)⟩

/-- A slice of our own: v has n elements of sz cells, which are cs; behind them there is room as its capacity says. -/
def sliceP (v : Value) (E sz n : Nat) (cs : List Value) : HP := fun h =>
  cs.length = n * sz ∧ n ≤ maxLen ∧ ((v = .slice none 0 0 ∧ n = 0) ∨
    ∃ b o cap pre post, v = .slice (some ⟨b, o, none⟩) n cap ∧ n ≤ cap ∧ cap ≤ maxLen ∧ pre.length = o ∧ post.length = (cap - n) * sz ∧ cellsP b E (pre ++ cs ++ post) h)
theorem sliceP_nil (E sz : Nat) (h : Hl) : sliceP (.slice none 0 0) E sz 0 [] h := ⟨by simp, Nat.zero_le _, .inl ⟨rfl, rfl⟩⟩
theorem sliceP_lit {b E sz n : Nat} {cs : List Value} (hl : cs.length = n * sz) (hn : n ≤ maxLen) {h : Hl} (hc : cellsP b E cs h) : sliceP (.slice (some ⟨b, 0, none⟩) n n) E sz n cs h :=
  ⟨hl, hn, .inr ⟨b, 0, n, [], [], rfl, Nat.le_refl _, hn, rfl, by simp, by simpa using hc⟩⟩
theorem Sat.sliceP_nil {k w : World} {L : List HP} (hs : Sat k w L) (E sz : Nat) : Sat k w (sliceP (.slice none 0 0) E sz 0 [] :: L) :=
  ⟨hs.1, hs.2.elim fun h q => ⟨h, q.1, fun _ => none, h, fun _ => .inl rfl, fun _ => rfl, M.sliceP_nil E sz _, q.2⟩⟩
theorem Sat.slice_shape {k w : World} {L : List HP} {v : Value} {E sz n : Nat} {cs : List Value} (hs : Sat k w (sliceP v E sz n cs :: L)) : cs.length = n * sz ∧ n ≤ maxLen ∧ ∃ p c, v = .slice p n c := by
  refine hs.known fun h ⟨h1, h2, h3⟩ => ⟨h1, h2, ?_⟩
  rcases h3 with ⟨rfl, rfl⟩ | ⟨b, o, cap, pre, post, rfl, _⟩
  · exact ⟨none, 0, rfl⟩
  · exact ⟨_, cap, rfl⟩
theorem Sat.slice_reads {k w : World} {L : List HP} {v : Value} {E sz n : Nat} {cs : List Value} (hs : Sat k w (sliceP v E sz n cs :: L)) : Reads w v sz n cs := by
  obtain ⟨h0, h, hh, h1, h2, hd, hu, ⟨a1, a2, a3⟩, q⟩ := hs
  refine ⟨a1, ?_⟩
  have hm : n ≤ 9223372036854775807 := by simp only [maxLen] at a2; omega
  rcases a3 with ⟨rfl, rfl⟩ | ⟨b, o, cap, pre, post, rfl, b1, b2, b3, b4, b5⟩
  · exact ⟨none, 0, rfl, by omega, fun hn => absurd hn (by omega)⟩
  · refine ⟨_, cap, rfl, hm, fun hn => ⟨b, o, rfl, fun j u hj => ?_⟩⟩
    have hb : w.heap[b]? = some (.cells (pre ++ cs ++ post).toArray E (0, 0)) := by
      refine hh b _ ?_
      rw [hu b, show h1 b = _ from b5]; rfl
    rw [cell_lit hb]
    have hjl : j < cs.length := (List.getElem?_eq_some_iff.1 hj).1
    simp only [List.getElem?_toArray, List.append_assoc]
    rw [List.getElem?_append_right (by omega), List.getElem?_append_left (by omega), ← hj]
    congr 1; omega
theorem Sat.cells_reads {k w : World} {L : List HP} {b E sz n c : Nat} {cs : List Value} (hs : Sat k w (cellsP b E cs :: L)) (hl : cs.length = n * sz) (hn : n ≤ 9223372036854775807) : Reads w (.slice (some ⟨b, 0, none⟩) n c) sz n cs :=
  ⟨hl, _, c, rfl, hn, fun _ => ⟨b, 0, rfl, fun j u hj => by rw [cell_lit hs.read]; simpa using hj⟩⟩

theorem Sat.imp' {k w w' : World} {A B : HP} {L : List HP} (hs : Sat k w (A :: L)) (hw : w = w') (hi : ∀ h, A h → B h) : Sat k w' (B :: L) := hw ▸ hs.imp hi
section
variable {P : Program} {k : World}
theorem zero_length {T n by_ : Nat} {z : Value} [h : TI P T n by_ z] : ∃ i, P.info? T = some i ∧ i.size = n ∧ i.bytes = by_ ∧ i.zero = some z := h.h
/-- append: the elements 'news' behind those that are there. -/
theorem run_append {w : World} {L : List HP} {S E sz by_ : Nat} {z : Value} [TU P S (.slice E)] [TI P E sz by_ z] (hz : z.cells.size = sz) (h0 : 0 < sz) {ty n m : Nat} {v x : Value} {cs news : List Value}
    (hs : Sat k w (sliceP v E sz n cs :: L)) (hr : Reads w x sz m news) (h1 : ∀ u ∈ news, u.oneCell' = true) (hb : (n + m) * by_ ≤ 140737488355328) (hm : n + m ≤ maxLen) :
    ∃ v' w', (Builtin.append_ #[S, S] ty #[v, x]).run P w = .ok v' w' ∧ Sat k w' (sliceP v' E sz (n + m) (cs ++ news) :: L) := by
  obtain ⟨i, hi, rfl, rfl, hzz⟩ := zero_length (P := P) (T := E)
  have ht := (inferInstance : TU P S (.slice E)).h
  obtain ⟨hcs, hnl, hcase⟩ : cs.length = n * i.size ∧ n ≤ maxLen ∧ ((v = .slice none 0 0 ∧ n = 0) ∨ ∃ b o cap, v = .slice (some ⟨b, o, none⟩) n cap) := hs.known fun h ⟨a1, a2, a3⟩ => ⟨a1, a2, a3.imp id fun ⟨b, o, cap, _, _, e, _⟩ => ⟨b, o, cap, e⟩⟩
  obtain ⟨hnews, px, cx, rfl, hmm, hpx⟩ := hr
  have hl : (cs ++ news).length = (n + m) * i.size := by rw [List.length_append, hcs, hnews, Nat.add_mul]
  have hdrop : Sat k w L := hs.drop
  have hsmall : n + m ≤ 9223372036854775807 := by simp only [maxLen] at hm; omega
  -- a new row
  have grown : ∀ (cap : Nat), cap < n + m → Sat k (w.drew.alloc (.cells (cs.toArray ++ news.toArray ++ Builtin.zeroCells z.cells (grownCap w (n + m) cap E - (n + m))) E))
      (sliceP (.slice (some ⟨w.heap.size, 0, none⟩) (n + m) (grownCap w (n + m) cap E)) E i.size (n + m) (cs ++ news) :: L) := by
    intro cap hc
    have hge := grownCap_ge w (n + m) cap E
    have hle := grownCap_le_maxLen w (n + m) cap E hm
    have h2 : Sat k w.drew L := hdrop.heap rfl rfl rfl fun _ _ e => e
    refine (h2.alloc _).imp fun h hp => ?_
    refine ⟨hl, hm, .inr ⟨w.heap.size, 0, _, [], (Builtin.zeroCells z.cells (grownCap w (n + m) cap E - (n + m))).toList, rfl, hge, hle, rfl, ?_, ?_⟩⟩
    · simp [size_zeroCells, hz]
    · have e1 : ([] ++ (cs ++ news) ++ (Builtin.zeroCells z.cells (grownCap w (n + m) cap E - (n + m))).toList).toArray = cs.toArray ++ news.toArray ++ Builtin.zeroCells z.cells (grownCap w (n + m) cap E - (n + m)) := by
        apply Array.ext'; simp
      show h w.heap.size = _
      rw [e1]; exact hp
  rcases Nat.eq_zero_or_pos m with hm0 | hm0
  · subst hm0
    obtain rfl : news = [] := List.eq_nil_of_length_eq_zero (by simpa using hnews)
    refine ⟨v, w, ?_, by simpa using hs⟩
    obtain ⟨h0', h, hh, h1', h2', hd, hu, ⟨a1, a2, a3⟩, q⟩ := hs
    rcases a3 with ⟨rfl, rfl⟩ | ⟨b, o, cap, pre, post, rfl, b1, b2, b3, b4, b5⟩
    · cases px <;> simp [Builtin.append_, run_underlying ht, sizeOf, typeInfo, hi, Builtin.lenOf, Builtin.firstCells, loadCells, loadCellsFrom]
    · cases px <;> simp [Builtin.append_, run_underlying ht, sizeOf, typeInfo, hi, Builtin.lenOf, Builtin.firstCells, loadCells, loadCellsFrom, b1, storeCells]
  · obtain ⟨bx, ox, rfl, hcell⟩ := hpx hm0
    have hnews' : ∀ j u, news[j]? = some u → w.cell? ((⟨bx, ox, none⟩ : Addr).add j) = some u := fun j u hu => by rw [add_lit]; exact hcell j u hu
    rcases hcase with ⟨rfl, rfl⟩ | ⟨b, o, cap, rfl⟩
    · obtain rfl : cs = [] := List.eq_nil_of_length_eq_zero (by simpa using hcs)
      have hr := run_append_nil (P := P) w S ty E i z ht hi hzz ⟨bx, ox, none⟩ m cx news hnews hnews' hm0 (by omega) (by have hb' := hb; simp only [Nat.zero_add] at hb'; omega)
      have hg := grown 0 (by omega)
      simp only [Nat.zero_add, List.nil_append] at hg ⊢
      exact ⟨_, _, hr, by simpa using hg⟩
    · obtain ⟨h0', h, hh, h1', h2', hd, hu, ⟨a1, a2, a3⟩, q⟩ := hs
      rcases a3 with ⟨hv, _⟩ | ⟨b', o', cap', pre', post', hv, c1, c2, c3, c4, c5⟩
      · cases hv
      · simp only [Value.slice.injEq, Option.some.injEq, Addr.mk.injEq, true_and, and_true] at hv
        obtain ⟨⟨rfl, rfl⟩, rfl⟩ := hv
        have hblk : w.heap[b]? = some (.cells (pre' ++ cs ++ post').toArray E (0, 0)) := by
          refine hh b _ ?_
          rw [hu b, show h1' b = _ from c5]; rfl
        by_cases hroom : n + m ≤ cap
        · have hfc := run_firstCells_some (P := P) w i.size m ⟨bx, ox, none⟩ m cx news hnews hnews'
          have hfit : o + n * i.size + news.length ≤ (pre' ++ cs ++ post').length := by
            simp only [List.length_append, c3, a1, c4, hnews, ← Nat.add_mul, Nat.add_assoc]
            have : n + (cap - n) = cap := by omega
            rw [this]
            exact Nat.add_le_add_left (Nat.mul_le_mul_right _ hroom) _
          have hst := run_storeCells_at P b (o + n * i.size) E news 0 (pre' ++ cs ++ post').toArray w hblk (by simpa using hfit) h1
          refine ⟨.slice (some ⟨b, o, none⟩) (n + m) cap, w.setRow b ((pre' ++ cs ++ post').toArray.toList.take (o + n * i.size + 0) ++ news ++ (pre' ++ cs ++ post').toArray.toList.drop (o + n * i.size + 0 + news.length)).toArray, ?_, ?_⟩
          · simp only [Builtin.append_]
            simp only [Sem.run_bind, run_underlying ht, sizeOf, typeInfo, hi, Builtin.lenOf, hroom, hfc, add_lit, hst]
            simp [run_underlying ht, sizeOf, typeInfo, hi, Builtin.lenOf, hroom, hfc, add_lit, hst]
          · have hsr : Sat k w (cellsP b E (pre' ++ cs ++ post') :: L) := ⟨h0', h, hh, h1', h2', hd, hu, c5, q⟩
            refine (hsr.setRow (cs' := pre' ++ (cs ++ news) ++ post'.drop news.length)).imp' ?_ fun h hp => ⟨hl, hm, .inr ⟨b, o, cap, pre', post'.drop news.length, rfl, hroom, c2, c3, ?_, hp⟩⟩
            · congr 1
              apply Array.ext'
              have e1 := list_over pre' cs post' news
              rw [c3, a1] at e1
              simpa using e1
            · simp [c4, hnews]
              rw [← Nat.sub_mul]
              congr 1
              omega
        · have holds : ∀ j u, cs[j]? = some u → w.cell? ((⟨b, o, none⟩ : Addr).add j) = some u := fun j u hj => by
            rw [add_lit, cell_lit hblk]
            have hjl : j < cs.length := (List.getElem?_eq_some_iff.1 hj).1
            simp only [List.getElem?_toArray, List.append_assoc]
            rw [List.getElem?_append_right (by omega), List.getElem?_append_left (by omega), ← hj]
            congr 1; omega
          have hr := run_append_grow (P := P) w S ty E i z ht hi hzz ⟨b, o, none⟩ n cap cs a1 holds ⟨bx, ox, none⟩ m cx news hnews hnews' (by omega) (by omega) (growslice_fits (by omega) hb)
          exact ⟨_, _, hr, grown cap (by omega)⟩
end
end Go.Proofs.Ytkmjldihlgchdaa.M
