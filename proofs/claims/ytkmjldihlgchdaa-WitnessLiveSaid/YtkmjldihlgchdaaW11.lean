/- The reference's Out. -/
import Derived.Test.YtkmjldihlgchdaaW10
set_option linter.all false
set_option linter.unusedVariables false
set_option linter.unusedSimpArgs false
set_option maxRecDepth 10000
namespace Go.Proofs.Ytkmjldihlgchdaa.M
theorem rises_unique {a b : List Int} (ha : a.Pairwise (· < ·)) (hb : b.Pairwise (· < ·)) (h : ∀ m, m ∈ a ↔ m ∈ b) : a = b := by
  induction a generalizing b with
  | nil =>
    cases b with
    | nil => rfl
    | cons y b => exact absurd ((h y).2 List.mem_cons_self) (by simp)
  | cons x a ih =>
    cases b with
    | nil => exact absurd ((h x).1 List.mem_cons_self) (by simp)
    | cons y b =>
      rw [List.pairwise_cons] at ha hb
      have hxy : x = y := by
        rcases List.mem_cons.1 ((h x).1 List.mem_cons_self) with e | e
        · exact e
        · rcases List.mem_cons.1 ((h y).2 List.mem_cons_self) with e2 | e2
          · exact e2.symm
          · have := hb.1 x e; have := ha.1 y e2; omega
      subst hxy
      congr 1
      refine ih ha.2 hb.2 fun m => ?_
      constructor
      · intro hm
        rcases List.mem_cons.1 ((h m).1 (List.mem_cons_of_mem _ hm)) with e | e
        · subst e; exact absurd (ha.1 _ hm) (by omega)
        · exact e
      · intro hm
        rcases List.mem_cons.1 ((h m).2 (List.mem_cons_of_mem _ hm)) with e | e
        · subst e; exact absurd (hb.1 _ hm) (by omega)
        · exact e
theorem putL_rises (l : List Int) (n : Int) (h : l.Pairwise (· < ·)) (hn : n ∉ l) : (putL l n).Pairwise (· < ·) ∧ (∀ m, m ∈ putL l n ↔ m = n ∨ m ∈ l) ∧ (putL l n).length = l.length + 1 := by
  have hmem : ∀ m, m ∈ putL l n ↔ m = n ∨ m ∈ l := fun m => by
    unfold putL
    simp only [List.mem_append, List.mem_filter, List.mem_cons, decide_eq_true_eq]
    constructor
    · rintro (h | h | h)
      · exact .inr h.1
      · exact .inl h
      · exact .inr h.1
    · rintro (rfl | h)
      · exact .inr (.inl rfl)
      · by_cases h1 : m < n
        · exact .inl ⟨h, h1⟩
        · have : m ≠ n := fun e => hn (e ▸ h)
          exact .inr (.inr ⟨h, by omega⟩)
  refine ⟨?_, hmem, ?_⟩
  · unfold putL
    rw [List.pairwise_append]
    refine ⟨h.filter _, ?_, fun a ha b hb => ?_⟩
    · rw [List.pairwise_cons]
      exact ⟨fun a ha => by simpa using (List.mem_filter.1 ha).2, h.filter _⟩
    · have h1 : a < n := by simpa using (List.mem_filter.1 ha).2
      rcases List.mem_cons.1 hb with rfl | hb
      · exact h1
      · have h2 : n < b := by simpa using (List.mem_filter.1 hb).2
        omega
  · unfold putL
    have key : ∀ l : List Int, n ∉ l → (l.filter (· < n)).length + (l.filter (n < ·)).length = l.length := by
      intro l
      induction l with
      | nil => intro _; rfl
      | cons x l ih =>
        intro hx
        have := ih (fun h => hx (List.mem_cons_of_mem _ h))
        have hne : x ≠ n := fun e => hx (e ▸ List.mem_cons_self)
        by_cases h1 : x < n
        · rw [List.filter_cons_of_pos (by simpa using h1), List.filter_cons_of_neg (by simp; omega)]; simp; omega
        · rw [List.filter_cons_of_neg (by simp; omega), List.filter_cons_of_pos (by simp; omega)]; simp; omega
    have := key l hn
    simp; omega
theorem put_any {k w : World} {R : List HP} {p : Option Addr} {c : Nat} {l : List Int} (n : Int) (hs : Sat k w (numsP (.slice p l.length c) l :: R)) (hlen : (l.length + 1) * 8 ≤ 140737488355328) (hr : l.Pairwise (· < ·)) :
    Pure Try.prog 22 #[.slice p l.length c, .int .u64 n] w (fun x C => (n ∈ l ∧ x = .slice p l.length c ∧ C = []) ∨ (n ∉ l ∧ ∃ p c', x = .slice p (putL l n).length c' ∧ C = [numsP (.slice p (putL l n).length c') (putL l n)])) := by
  have h1 : Sat k w (sliceP (.slice p l.length c) 22 1 l.length (l.flatMap numc) :: R) := hs
  have hrd : ReadL w (.slice p l.length c) 1 numc l := h1.slice_reads
  rcases Nat.eq_zero_or_pos l.length with h0 | h0
  · obtain rfl := List.eq_nil_of_length_eq_zero h0
    have hsh : p = none ∧ c = 0 ∨ ∃ b o, p = some ⟨b, o, none⟩ ∧ 0 ≤ c := h1.known fun h ⟨a1, a2, a3⟩ => by
      rcases a3 with ⟨e, _⟩ | ⟨b, o, cap, pre, post, e, e2, _⟩
      · simp at e; exact .inl e
      · simp at e; exact .inr ⟨b, o, e.1, by omega⟩
    rcases hsh with ⟨rfl, rfl⟩ | ⟨b, o, rfl, hc⟩
    · refine Pure.mono (put_nil n w) fun x C ⟨p, c', e1, e2⟩ => .inr ⟨by simp, p, c', ?_, ?_⟩
      · simpa [putL] using e1
      · simpa [putL] using e2
    · refine Pure.mono (put_some b o c [] n w hrd hc hlen hr) fun x C h => ?_
      rcases h with h | ⟨h2, p, c', h3, h4⟩
      · exact .inl h
      · refine .inr ⟨h2, p, c', ?_, ?_⟩
        · simpa [putL] using h3
        · simpa [putL] using h4
  · obtain ⟨b, o, rfl, hc⟩ := h1.slice_ptr h0
    refine Pure.mono (put_some b o c l n w hrd hc hlen hr) fun x C h => ?_
    rcases h with h | ⟨h2, p, c', h3, h4⟩
    · exact .inl h
    · have e := (putL_rises l n hr h2).2.2
      rw [e]
      exact .inr ⟨h2, p, c', h3, h4⟩
theorem any_take {α : Type} (l : List α) (f : α → Bool) (i : Nat) (h : i < l.length) : (l.take (i + 1)).any f = ((l.take i).any f || f l[i]) := by
  rw [List.take_add_one, List.getElem?_eq_getElem h, List.any_append]; simp
section
attribute [local irreducible] cellsP pts sliceP old Sat WC WL WQ WD WN WX OV WO WOX DO Exit.then Exit.inBlock bodyPost Code.wp NP Calls Env.Sub Does Spec arrP
set_option maxHeartbeats 4000000 in
theorem ref_Out (s : Sm) (stir : Int) (x : Int × Int) (state : Int) (pinned : Bool) (k : World) (hA : s.At k) (hlen : s.rows.length * 8 ≤ 140737488351232) :
    Pure Try.prog 13 #[.agg s.cs.toArray, .int .u64 stir, .agg (idc x).toArray, .int .i64 state, .bool pinned] k (AnsT (outAns finL s stir x state pinned)) := by
  obtain ⟨stir', rv, rows, ov, outs, ok⟩ := s
  obtain ⟨p2, c2, rfl, hn2, hp2⟩ := (show ReadL k rv 2 rwc rows from hA.1).cell rwc_len
  have hA2 : ∀ r ∈ rows, ReadL k r.v 2 idc r.outs := hA.2.1
  obtain ⟨p, c, rfl, hn, hp⟩ := (show ReadL k ov 3 outc outs from hA.2.2).cell outc_len
  simp only [Sm.cs] at *
  obtain ⟨x1, x2⟩ := x
  refine calls_start (args := [_, _, _, _, _]) Try.func13 rfl Try.ntmps13 rfl (Sat.start k) ?_
  (repeat' (first | refine WC.seq ?_ | refine WC.region ?_ | refine WL.nil ?_ | refine WD.nil ?_ | refine WQ.next ?_ | refine WC.skip ?_ | refine WC.ret ?_ | refine WC.exit ?_ | refine WC.block ?_ | refine WQ.then_ret ?_ | refine WQ.then_exit ?_ | refine WQ.block_ret ?_ | refine WQ.block_normal ?_ | refine WQ.block_hit ?_ | refine WQ.block_miss rfl ?_ | ((refine WL.run (T := tab) rfl rfl ?_ ?_); (focus (first | exact rfl | omega))) | refine WL.plain rfl ?_ | refine WL.yes rfl rfl rfl ?_ | refine WL.valN rfl rfl rfl rfl rfl rfl ?_ | refine WL.valU rfl rfl rfl rfl rfl rfl ?_ | ((refine WL.split rfl rfl rfl (fun h => ?_) (fun h => ?_)) <;> (try simp only [zH] at h)) | refine WO.of (WOX.buildSlice0 rfl rfl (fun bs => ?_)) | (refine' WO.of (WOX.bslice rfl rfl rfl rfl rfl rfl rfl rfl ?_ (fun bs => ?_)); rotate_left; (focus (simp only [Value.cells, zX, zF]; rfl))) | refine WO.of (WOX.boxA rfl rfl (fun b => ?_)) | refine WO.of (WOX.box1 rfl rfl rfl (fun b => ?_)) | refine WO.of (WOX.allocZ rfl (fun q => ?_)) | (refine' WO.of (WOX.store1 rfl rfl rfl rfl rfl ?_ ?_); rotate_left; (focus (first | (simp only [Nat.reduceAdd, zS]; rfl) | rfl))) | (refine' WO.of (WOX.storeN rfl rfl rfl rfl rfl ?_ ?_); rotate_left; (focus (first | (simp only [overAt, Nat.reduceAdd, zR, zF]; rfl) | rfl))) | (refine' WO.val ?_ rfl rfl ?_; rotate_left; (focus (first | exact OV.load1 rfl rfl rfl | (refine' OV.loadN rfl rfl ?_; any_goals (simp only [rowAt, Nat.reduceAdd, Nat.reduceLeDiff, zR]; rfl)) | ((refine OV.one (T := tab) rfl ?_); (first | exact rfl | omega)) | exact OV.pickT rfl rfl | exact OV.pickF rfl rfl | exact OV.pick rfl rfl rfl | exact OV.field1 rfl rfl rfl | exact OV.field rfl rfl rfl | exact OV.eqNilP rfl rfl | exact OV.neNilP rfl rfl | exact OV.eq2 rfl rfl | exact OV.ne2 rfl rfl | exact OV.neg rfl | (refine OV.shl1 rfl ?_; omega) | (refine' OV.build rfl ?_; any_goals (simp only [fillL, Value.cells, overAt, Nat.reduceAdd, Nat.reduceLeDiff, ite_true, zR, zF]; rfl))| exact OV.loadK1 rfl rfl (by assumption) | exact OV.loadKE1 rfl rfl hcell hr rfl | exact OV.loadKE rfl rfl hcell hr rfl rfl | exact OV.loadKEF rfl rfl hcell hr rfl | exact OV.loadKEP rfl rfl hcell hr rfl | exact OV.loadKE1 rfl rfl hcell2 hr2 rfl | exact OV.loadKE rfl rfl hcell2 hr2 rfl rfl | exact OV.loadKEF rfl rfl hcell2 hr2 rfl | exact OV.loadKEP rfl rfl hcell2 hr2 rfl | exact OV.loadKE1 rfl rfl hcell3 hr3 rfl | exact OV.loadKE rfl rfl hcell3 hr3 rfl rfl | exact OV.loadKEF rfl rfl hcell3 hr3 rfl | exact OV.loadKEP rfl rfl hcell3 hr3 rfl))) | refine WC.condT rfl ?_ | refine WC.condF rfl ?_ | ((refine WC.cond rfl (fun h => ?_) (fun h => ?_)) <;> (try simp only [zH] at h))))
  all_goals try (refine WQ.ret2 Try.results13 rfl rfl (fun w hs => AnsT.nil ?_ (by ((try dsimp only [List.cons_append, List.nil_append]); first | exact hs.sub | exact hs))); unfold outAns; simp_all; done)
  have hfin : outAns finL ⟨stir', .slice p2 rows.length c2, rows, .slice p outs.length c, outs, ok⟩ stir (x1, x2) state pinned = if outs.any (fun r => decide (r.1 = (x1, x2))) = false then (1, []) else if 64 < (finL (into rows (x1, x2))).length then (1, []) else (2, finL (into rows (x1, x2))) := by
    unfold outAns
    simp_all
  refine WC.loopK (fun i : Nat => i ≤ outs.length) [(5, _), (7, _)] (fun i => [(12, .bool ((outs.take i).any fun r => decide (r.1 = (x1, x2)))), (13, .int .i64 i)]) (fun _ => []) (fun i => outs.length - i) 0 (by (repeat' (first | refine Env.Sub.cons rfl ?_ | refine Env.Sub.app ?_ ?_ | exact Env.Sub.nil _))) (by (repeat' (first | refine Env.Sub.cons rfl ?_ | refine Env.Sub.app ?_ ?_ | exact Env.Sub.nil _))) (by (repeat' (first | exact Picks.nil | exact Take.here | refine' Picks.cons ?_ ?_ | refine' Take.there ?_))) (by omega) ?_
  rintro i hi
  dsimp only [List.cons_append, List.nil_append]
  by_cases hlt : i < outs.length
  · obtain ⟨b', o', rfl, hcell⟩ := hp (by omega)
    have hr : outs[i]? = some outs[i] := List.getElem?_eq_getElem hlt
    have hstep := any_take outs (fun r => decide (r.1 = (x1, x2))) i hlt
    have hry : ∀ y : (Int × Int) × Int, (decide (y.1.1 = x1) && decide (y.1.2 = x2)) = decide (y.1 = (x1, x2)) := fun ⟨⟨y1, y2⟩, y3⟩ => by
      rw [Bool.eq_iff_iff]; simp
    (repeat' (first | refine WC.seq ?_ | refine WC.region ?_ | refine WL.nil ?_ | refine WD.nil ?_ | refine WQ.next ?_ | refine WC.skip ?_ | refine WC.ret ?_ | refine WC.exit ?_ | refine WC.block ?_ | refine WQ.then_ret ?_ | refine WQ.then_exit ?_ | refine WQ.block_ret ?_ | refine WQ.block_normal ?_ | refine WQ.block_hit ?_ | refine WQ.block_miss rfl ?_ | ((refine WL.run (T := tab) rfl rfl ?_ ?_); (focus (first | exact rfl | omega))) | refine WL.plain rfl ?_ | refine WL.yes rfl rfl rfl ?_ | refine WL.valN rfl rfl rfl rfl rfl rfl ?_ | refine WL.valU rfl rfl rfl rfl rfl rfl ?_ | ((refine WL.split rfl rfl rfl (fun h => ?_) (fun h => ?_)) <;> (try simp only [zH] at h)) | refine WO.of (WOX.buildSlice0 rfl rfl (fun bs => ?_)) | (refine' WO.of (WOX.bslice rfl rfl rfl rfl rfl rfl rfl rfl ?_ (fun bs => ?_)); rotate_left; (focus (simp only [Value.cells, zX, zF]; rfl))) | refine WO.of (WOX.boxA rfl rfl (fun b => ?_)) | refine WO.of (WOX.box1 rfl rfl rfl (fun b => ?_)) | refine WO.of (WOX.allocZ rfl (fun q => ?_)) | (refine' WO.of (WOX.store1 rfl rfl rfl rfl rfl ?_ ?_); rotate_left; (focus (first | (simp only [Nat.reduceAdd, zS]; rfl) | rfl))) | (refine' WO.of (WOX.storeN rfl rfl rfl rfl rfl ?_ ?_); rotate_left; (focus (first | (simp only [overAt, Nat.reduceAdd, zR, zF]; rfl) | rfl))) | (refine' WO.val ?_ rfl rfl ?_; rotate_left; (focus (first | exact OV.load1 rfl rfl rfl | (refine' OV.loadN rfl rfl ?_; any_goals (simp only [rowAt, Nat.reduceAdd, Nat.reduceLeDiff, zR]; rfl)) | ((refine OV.one (T := tab) rfl ?_); (first | exact rfl | omega)) | exact OV.pickT rfl rfl | exact OV.pickF rfl rfl | exact OV.pick rfl rfl rfl | exact OV.field1 rfl rfl rfl | exact OV.field rfl rfl rfl | exact OV.eqNilP rfl rfl | exact OV.neNilP rfl rfl | exact OV.eq2 rfl rfl | exact OV.ne2 rfl rfl | exact OV.neg rfl | (refine OV.shl1 rfl ?_; omega) | (refine' OV.build rfl ?_; any_goals (simp only [fillL, Value.cells, overAt, Nat.reduceAdd, Nat.reduceLeDiff, ite_true, zR, zF]; rfl))| exact OV.loadK1 rfl rfl (by assumption) | exact OV.loadKE1 rfl rfl hcell hr rfl | exact OV.loadKE rfl rfl hcell hr rfl rfl | exact OV.loadKEF rfl rfl hcell hr rfl | exact OV.loadKEP rfl rfl hcell hr rfl | exact OV.loadKE1 rfl rfl hcell2 hr2 rfl | exact OV.loadKE rfl rfl hcell2 hr2 rfl rfl | exact OV.loadKEF rfl rfl hcell2 hr2 rfl | exact OV.loadKEP rfl rfl hcell2 hr2 rfl | exact OV.loadKE1 rfl rfl hcell3 hr3 rfl | exact OV.loadKE rfl rfl hcell3 hr3 rfl rfl | exact OV.loadKEF rfl rfl hcell3 hr3 rfl | exact OV.loadKEP rfl rfl hcell3 hr3 rfl))) | refine WC.condT rfl ?_ | refine WC.condF rfl ?_ | ((refine WC.cond rfl (fun h => ?_) (fun h => ?_)) <;> (try simp only [zH] at h)) | ((refine WD.run (T := tab) rfl rfl ?_ ?_); (focus (first | exact rfl | omega))) | refine WD.plain rfl ?_ | refine WD.yes rfl rfl rfl ?_ | refine WD.valN rfl rfl rfl rfl rfl rfl ?_ | refine WD.valU rfl rfl rfl rfl rfl rfl ?_ | ((refine WD.split rfl rfl rfl (fun h => ?_) (fun h => ?_)) <;> (try simp only [zH] at h)) | (refine' DO.val rfl rfl ?_ ?_; rotate_left; (focus (first | exact OV.load1 rfl rfl rfl | (refine' OV.loadN rfl rfl ?_; any_goals (simp only [rowAt, Nat.reduceAdd, Nat.reduceLeDiff, zR]; rfl)) | ((refine OV.one (T := tab) rfl ?_); (first | exact rfl | omega)) | exact OV.pickT rfl rfl | exact OV.pickF rfl rfl | exact OV.pick rfl rfl rfl | exact OV.field1 rfl rfl rfl | exact OV.field rfl rfl rfl | exact OV.eqNilP rfl rfl | exact OV.neNilP rfl rfl | exact OV.eq2 rfl rfl | exact OV.ne2 rfl rfl | exact OV.neg rfl | (refine OV.shl1 rfl ?_; omega) | (refine' OV.build rfl ?_; any_goals (simp only [fillL, Value.cells, overAt, Nat.reduceAdd, Nat.reduceLeDiff, ite_true, zR, zF]; rfl))| exact OV.loadK1 rfl rfl (by assumption) | exact OV.loadKE1 rfl rfl hcell hr rfl | exact OV.loadKE rfl rfl hcell hr rfl rfl | exact OV.loadKEF rfl rfl hcell hr rfl | exact OV.loadKEP rfl rfl hcell hr rfl | exact OV.loadKE1 rfl rfl hcell2 hr2 rfl | exact OV.loadKE rfl rfl hcell2 hr2 rfl rfl | exact OV.loadKEF rfl rfl hcell2 hr2 rfl | exact OV.loadKEP rfl rfl hcell2 hr2 rfl | exact OV.loadKE1 rfl rfl hcell3 hr3 rfl | exact OV.loadKE rfl rfl hcell3 hr3 rfl rfl | exact OV.loadKEF rfl rfl hcell3 hr3 rfl | exact OV.loadKEP rfl rfl hcell3 hr3 rfl))) | refine WC.drawnQ rfl mixed (by kernel_rfl) ?_))
    all_goals try (exfalso; omega)
    · rw [h, Bool.true_or] at hstep
      exact WQ.round (i + 1) (by omega) (by omega) (by (rw [hstep]); (repeat' (first | refine Env.Sub.cons rfl ?_ | refine Env.Sub.app ?_ ?_ | exact Env.Sub.nil _))) (fun w hs => by ((try dsimp only [List.cons_append, List.nil_append]); first | exact hs.sub | exact hs))
    · rw [h, Bool.false_or, ← hry] at hstep
      exact WQ.round (i + 1) (by omega) (by omega) (by (rw [hstep]); (repeat' (first | refine Env.Sub.cons rfl ?_ | refine Env.Sub.app ?_ ?_ | exact Env.Sub.nil _))) (fun w hs => by ((try dsimp only [List.cons_append, List.nil_append]); first | exact hs.sub | exact hs))
  (repeat' (first | refine WC.seq ?_ | refine WC.region ?_ | refine WL.nil ?_ | refine WD.nil ?_ | refine WQ.next ?_ | refine WC.skip ?_ | refine WC.ret ?_ | refine WC.exit ?_ | refine WC.block ?_ | refine WQ.then_ret ?_ | refine WQ.then_exit ?_ | refine WQ.block_ret ?_ | refine WQ.block_normal ?_ | refine WQ.block_hit ?_ | refine WQ.block_miss rfl ?_ | ((refine WL.run (T := tab) rfl rfl ?_ ?_); (focus (first | exact rfl | omega))) | refine WL.plain rfl ?_ | refine WL.yes rfl rfl rfl ?_ | refine WL.valN rfl rfl rfl rfl rfl rfl ?_ | refine WL.valU rfl rfl rfl rfl rfl rfl ?_ | ((refine WL.split rfl rfl rfl (fun h => ?_) (fun h => ?_)) <;> (try simp only [zH] at h)) | refine WO.of (WOX.buildSlice0 rfl rfl (fun bs => ?_)) | (refine' WO.of (WOX.bslice rfl rfl rfl rfl rfl rfl rfl rfl ?_ (fun bs => ?_)); rotate_left; (focus (simp only [Value.cells, zX, zF]; rfl))) | refine WO.of (WOX.boxA rfl rfl (fun b => ?_)) | refine WO.of (WOX.box1 rfl rfl rfl (fun b => ?_)) | refine WO.of (WOX.allocZ rfl (fun q => ?_)) | (refine' WO.of (WOX.store1 rfl rfl rfl rfl rfl ?_ ?_); rotate_left; (focus (first | (simp only [Nat.reduceAdd, zS]; rfl) | rfl))) | (refine' WO.of (WOX.storeN rfl rfl rfl rfl rfl ?_ ?_); rotate_left; (focus (first | (simp only [overAt, Nat.reduceAdd, zR, zF]; rfl) | rfl))) | (refine' WO.val ?_ rfl rfl ?_; rotate_left; (focus (first | exact OV.load1 rfl rfl rfl | (refine' OV.loadN rfl rfl ?_; any_goals (simp only [rowAt, Nat.reduceAdd, Nat.reduceLeDiff, zR]; rfl)) | ((refine OV.one (T := tab) rfl ?_); (first | exact rfl | omega)) | exact OV.pickT rfl rfl | exact OV.pickF rfl rfl | exact OV.pick rfl rfl rfl | exact OV.field1 rfl rfl rfl | exact OV.field rfl rfl rfl | exact OV.eqNilP rfl rfl | exact OV.neNilP rfl rfl | exact OV.eq2 rfl rfl | exact OV.ne2 rfl rfl | exact OV.neg rfl | (refine OV.shl1 rfl ?_; omega) | (refine' OV.build rfl ?_; any_goals (simp only [fillL, Value.cells, overAt, Nat.reduceAdd, Nat.reduceLeDiff, ite_true, zR, zF]; rfl))| exact OV.loadK1 rfl rfl (by assumption) | exact OV.loadKE1 rfl rfl hcell hr rfl | exact OV.loadKE rfl rfl hcell hr rfl rfl | exact OV.loadKEF rfl rfl hcell hr rfl | exact OV.loadKEP rfl rfl hcell hr rfl | exact OV.loadKE1 rfl rfl hcell2 hr2 rfl | exact OV.loadKE rfl rfl hcell2 hr2 rfl rfl | exact OV.loadKEF rfl rfl hcell2 hr2 rfl | exact OV.loadKEP rfl rfl hcell2 hr2 rfl | exact OV.loadKE1 rfl rfl hcell3 hr3 rfl | exact OV.loadKE rfl rfl hcell3 hr3 rfl rfl | exact OV.loadKEF rfl rfl hcell3 hr3 rfl | exact OV.loadKEP rfl rfl hcell3 hr3 rfl))) | refine WC.condT rfl ?_ | refine WC.condF rfl ?_ | ((refine WC.cond rfl (fun h => ?_) (fun h => ?_)) <;> (try simp only [zH] at h))))
  all_goals try (exfalso; omega)
  rw [List.take_of_length_le (by omega)]
  refine WC.turn fun w hs => ⟨_, hs.sliceP_nil 22 1, ?_⟩
  refine WC.loopK (fun z : Nat × Option Addr × Nat × List Int => z.1 ≤ rows.length ∧ z.2.2.2.Pairwise (· < ·) ∧ (∀ m, m ∈ z.2.2.2 ↔ m ∈ into (rows.take z.1) (x1, x2)) ∧ z.2.2.2.length ≤ z.1) [(5, _), (7, _), (12, _)] (fun z => [(14, .slice z.2.1 z.2.2.2.length z.2.2.1), (15, .int .i64 z.1)]) (fun z => [numsP (.slice z.2.1 z.2.2.2.length z.2.2.1) z.2.2.2]) (fun z => rows.length - z.1) (0, none, 0, []) (by (repeat' (first | refine Env.Sub.cons rfl ?_ | refine Env.Sub.app ?_ ?_ | exact Env.Sub.nil _))) (by (repeat' (first | refine Env.Sub.cons rfl ?_ | refine Env.Sub.app ?_ ?_ | exact Env.Sub.nil _))) (by (repeat' (first | exact Picks.nil | exact Take.here | refine' Picks.cons ?_ ?_ | refine' Take.there ?_))) ⟨by simp, by simp, by simp [into], by simp⟩ ?_
  rintro ⟨i2, pv, cv, l⟩ ⟨g1, g2, g3, g4⟩
  dsimp only [List.cons_append, List.nil_append] at g1 g2 g3 g4 ⊢
  by_cases hlt2 : i2 < rows.length
  · obtain ⟨b2, o2, rfl, hcell2⟩ := hp2 (by omega)
    obtain ⟨r, hr2⟩ : ∃ r, rows[i2]? = some r := ⟨_, List.getElem?_eq_getElem (by omega)⟩
    have hrm := List.mem_of_getElem? hr2
    have hstep := into_step rows (x1, x2) i2 r hr2
    have hrr := hA2 r hrm
    obtain ⟨inn, rv', ros⟩ := r
    have hrr' : ReadL k rv' 2 idc ros := hrr
    obtain ⟨p3, c3, rfl, hn3, hp3⟩ := hrr'.cell idc_len
    (repeat' (first | refine WC.seq ?_ | refine WC.region ?_ | refine WL.nil ?_ | refine WD.nil ?_ | refine WQ.next ?_ | refine WC.skip ?_ | refine WC.ret ?_ | refine WC.exit ?_ | refine WC.block ?_ | refine WQ.then_ret ?_ | refine WQ.then_exit ?_ | refine WQ.block_ret ?_ | refine WQ.block_normal ?_ | refine WQ.block_hit ?_ | refine WQ.block_miss rfl ?_ | ((refine WL.run (T := tab) rfl rfl ?_ ?_); (focus (first | exact rfl | omega))) | refine WL.plain rfl ?_ | refine WL.yes rfl rfl rfl ?_ | refine WL.valN rfl rfl rfl rfl rfl rfl ?_ | refine WL.valU rfl rfl rfl rfl rfl rfl ?_ | ((refine WL.split rfl rfl rfl (fun h => ?_) (fun h => ?_)) <;> (try simp only [zH] at h)) | refine WO.of (WOX.buildSlice0 rfl rfl (fun bs => ?_)) | (refine' WO.of (WOX.bslice rfl rfl rfl rfl rfl rfl rfl rfl ?_ (fun bs => ?_)); rotate_left; (focus (simp only [Value.cells, zX, zF]; rfl))) | refine WO.of (WOX.boxA rfl rfl (fun b => ?_)) | refine WO.of (WOX.box1 rfl rfl rfl (fun b => ?_)) | refine WO.of (WOX.allocZ rfl (fun q => ?_)) | (refine' WO.of (WOX.store1 rfl rfl rfl rfl rfl ?_ ?_); rotate_left; (focus (first | (simp only [Nat.reduceAdd, zS]; rfl) | rfl))) | (refine' WO.of (WOX.storeN rfl rfl rfl rfl rfl ?_ ?_); rotate_left; (focus (first | (simp only [overAt, Nat.reduceAdd, zR, zF]; rfl) | rfl))) | (refine' WO.val ?_ rfl rfl ?_; rotate_left; (focus (first | exact OV.load1 rfl rfl rfl | (refine' OV.loadN rfl rfl ?_; any_goals (simp only [rowAt, Nat.reduceAdd, Nat.reduceLeDiff, zR]; rfl)) | ((refine OV.one (T := tab) rfl ?_); (first | exact rfl | omega)) | exact OV.pickT rfl rfl | exact OV.pickF rfl rfl | exact OV.pick rfl rfl rfl | exact OV.field1 rfl rfl rfl | exact OV.field rfl rfl rfl | exact OV.eqNilP rfl rfl | exact OV.neNilP rfl rfl | exact OV.eq2 rfl rfl | exact OV.ne2 rfl rfl | exact OV.neg rfl | (refine OV.shl1 rfl ?_; omega) | (refine' OV.build rfl ?_; any_goals (simp only [fillL, Value.cells, overAt, Nat.reduceAdd, Nat.reduceLeDiff, ite_true, zR, zF]; rfl))| exact OV.loadK1 rfl rfl (by assumption) | exact OV.loadKE1 rfl rfl hcell hr rfl | exact OV.loadKE rfl rfl hcell hr rfl rfl | exact OV.loadKEF rfl rfl hcell hr rfl | exact OV.loadKEP rfl rfl hcell hr rfl | exact OV.loadKE1 rfl rfl hcell2 hr2 rfl | exact OV.loadKE rfl rfl hcell2 hr2 rfl rfl | exact OV.loadKEF rfl rfl hcell2 hr2 rfl | exact OV.loadKEP rfl rfl hcell2 hr2 rfl | exact OV.loadKE1 rfl rfl hcell3 hr3 rfl | exact OV.loadKE rfl rfl hcell3 hr3 rfl rfl | exact OV.loadKEF rfl rfl hcell3 hr3 rfl | exact OV.loadKEP rfl rfl hcell3 hr3 rfl))) | refine WC.condT rfl ?_ | refine WC.condF rfl ?_ | ((refine WC.cond rfl (fun h => ?_) (fun h => ?_)) <;> (try simp only [zH] at h))))
    all_goals try (exfalso; omega)
    refine WC.loopK (fun z : Nat × Option Addr × Nat × List Int => z.1 ≤ ros.length ∧ z.2.2.2.Pairwise (· < ·) ∧ (∀ m, m ∈ z.2.2.2 ↔ m ∈ into (rows.take i2) (x1, x2) ∨ (m = inn ∧ (ros.take z.1).any (fun y => decide (y = (x1, x2))) = true)) ∧ z.2.2.2.length ≤ i2 + 1 ∧ (inn ∉ z.2.2.2 → z.2.2.2.length ≤ i2)) [(5, _), (7, _), (12, _), (15, _)] (fun z => [(14, .slice z.2.1 z.2.2.2.length z.2.2.1), (16, .int .i64 z.1)]) (fun z => [numsP (.slice z.2.1 z.2.2.2.length z.2.2.1) z.2.2.2]) (fun z => ros.length - z.1) (0, pv, cv, l) (by (repeat' (first | refine Env.Sub.cons rfl ?_ | refine Env.Sub.app ?_ ?_ | exact Env.Sub.nil _))) (by (repeat' (first | refine Env.Sub.cons rfl ?_ | refine Env.Sub.app ?_ ?_ | exact Env.Sub.nil _))) (by (repeat' (first | exact Picks.nil | exact Take.here | refine' Picks.cons ?_ ?_ | refine' Take.there ?_))) ⟨by simp, g2, by simpa using g3, by dsimp only; omega, fun _ => g4⟩ ?_
    rintro ⟨q, pw, cw, l2⟩ ⟨f1, f2, f3, f4, f5⟩
    dsimp only [List.cons_append, List.nil_append] at f1 f2 f3 f4 f5 ⊢
    by_cases hlt3 : q < ros.length
    · obtain ⟨b3, o3, rfl, hcell3⟩ := hp3 (by omega)
      have hr3 : ros[q]? = some ros[q] := List.getElem?_eq_getElem hlt3
      have hst3 := any_take ros (fun y => decide (y = (x1, x2))) q hlt3
      have hry : ∀ y : Int × Int, (decide (y.1 = x1) && decide (y.2 = x2)) = decide (y = (x1, x2)) := fun ⟨y1, y2⟩ => by
        rw [Bool.eq_iff_iff]; simp
      (repeat' (first | refine WC.seq ?_ | refine WC.region ?_ | refine WL.nil ?_ | refine WD.nil ?_ | refine WQ.next ?_ | refine WC.skip ?_ | refine WC.ret ?_ | refine WC.exit ?_ | refine WC.block ?_ | refine WQ.then_ret ?_ | refine WQ.then_exit ?_ | refine WQ.block_ret ?_ | refine WQ.block_normal ?_ | refine WQ.block_hit ?_ | refine WQ.block_miss rfl ?_ | ((refine WL.run (T := tab) rfl rfl ?_ ?_); (focus (first | exact rfl | omega))) | refine WL.plain rfl ?_ | refine WL.yes rfl rfl rfl ?_ | refine WL.valN rfl rfl rfl rfl rfl rfl ?_ | refine WL.valU rfl rfl rfl rfl rfl rfl ?_ | ((refine WL.split rfl rfl rfl (fun h => ?_) (fun h => ?_)) <;> (try simp only [zH] at h)) | refine WO.of (WOX.buildSlice0 rfl rfl (fun bs => ?_)) | (refine' WO.of (WOX.bslice rfl rfl rfl rfl rfl rfl rfl rfl ?_ (fun bs => ?_)); rotate_left; (focus (simp only [Value.cells, zX, zF]; rfl))) | refine WO.of (WOX.boxA rfl rfl (fun b => ?_)) | refine WO.of (WOX.box1 rfl rfl rfl (fun b => ?_)) | refine WO.of (WOX.allocZ rfl (fun q => ?_)) | (refine' WO.of (WOX.store1 rfl rfl rfl rfl rfl ?_ ?_); rotate_left; (focus (first | (simp only [Nat.reduceAdd, zS]; rfl) | rfl))) | (refine' WO.of (WOX.storeN rfl rfl rfl rfl rfl ?_ ?_); rotate_left; (focus (first | (simp only [overAt, Nat.reduceAdd, zR, zF]; rfl) | rfl))) | (refine' WO.val ?_ rfl rfl ?_; rotate_left; (focus (first | exact OV.load1 rfl rfl rfl | (refine' OV.loadN rfl rfl ?_; any_goals (simp only [rowAt, Nat.reduceAdd, Nat.reduceLeDiff, zR]; rfl)) | ((refine OV.one (T := tab) rfl ?_); (first | exact rfl | omega)) | exact OV.pickT rfl rfl | exact OV.pickF rfl rfl | exact OV.pick rfl rfl rfl | exact OV.field1 rfl rfl rfl | exact OV.field rfl rfl rfl | exact OV.eqNilP rfl rfl | exact OV.neNilP rfl rfl | exact OV.eq2 rfl rfl | exact OV.ne2 rfl rfl | exact OV.neg rfl | (refine OV.shl1 rfl ?_; omega) | (refine' OV.build rfl ?_; any_goals (simp only [fillL, Value.cells, overAt, Nat.reduceAdd, Nat.reduceLeDiff, ite_true, zR, zF]; rfl))| exact OV.loadK1 rfl rfl (by assumption) | exact OV.loadKE1 rfl rfl hcell hr rfl | exact OV.loadKE rfl rfl hcell hr rfl rfl | exact OV.loadKEF rfl rfl hcell hr rfl | exact OV.loadKEP rfl rfl hcell hr rfl | exact OV.loadKE1 rfl rfl hcell2 hr2 rfl | exact OV.loadKE rfl rfl hcell2 hr2 rfl rfl | exact OV.loadKEF rfl rfl hcell2 hr2 rfl | exact OV.loadKEP rfl rfl hcell2 hr2 rfl | exact OV.loadKE1 rfl rfl hcell3 hr3 rfl | exact OV.loadKE rfl rfl hcell3 hr3 rfl rfl | exact OV.loadKEF rfl rfl hcell3 hr3 rfl | exact OV.loadKEP rfl rfl hcell3 hr3 rfl))) | refine WC.condT rfl ?_ | refine WC.condF rfl ?_ | ((refine WC.cond rfl (fun h => ?_) (fun h => ?_)) <;> (try simp only [zH] at h)) | ((refine WD.run (T := tab) rfl rfl ?_ ?_); (focus (first | exact rfl | omega))) | refine WD.plain rfl ?_ | refine WD.yes rfl rfl rfl ?_ | refine WD.valN rfl rfl rfl rfl rfl rfl ?_ | refine WD.valU rfl rfl rfl rfl rfl rfl ?_ | ((refine WD.split rfl rfl rfl (fun h => ?_) (fun h => ?_)) <;> (try simp only [zH] at h)) | (refine' DO.val rfl rfl ?_ ?_; rotate_left; (focus (first | exact OV.load1 rfl rfl rfl | (refine' OV.loadN rfl rfl ?_; any_goals (simp only [rowAt, Nat.reduceAdd, Nat.reduceLeDiff, zR]; rfl)) | ((refine OV.one (T := tab) rfl ?_); (first | exact rfl | omega)) | exact OV.pickT rfl rfl | exact OV.pickF rfl rfl | exact OV.pick rfl rfl rfl | exact OV.field1 rfl rfl rfl | exact OV.field rfl rfl rfl | exact OV.eqNilP rfl rfl | exact OV.neNilP rfl rfl | exact OV.eq2 rfl rfl | exact OV.ne2 rfl rfl | exact OV.neg rfl | (refine OV.shl1 rfl ?_; omega) | (refine' OV.build rfl ?_; any_goals (simp only [fillL, Value.cells, overAt, Nat.reduceAdd, Nat.reduceLeDiff, ite_true, zR, zF]; rfl))| exact OV.loadK1 rfl rfl (by assumption) | exact OV.loadKE1 rfl rfl hcell hr rfl | exact OV.loadKE rfl rfl hcell hr rfl rfl | exact OV.loadKEF rfl rfl hcell hr rfl | exact OV.loadKEP rfl rfl hcell hr rfl | exact OV.loadKE1 rfl rfl hcell2 hr2 rfl | exact OV.loadKE rfl rfl hcell2 hr2 rfl rfl | exact OV.loadKEF rfl rfl hcell2 hr2 rfl | exact OV.loadKEP rfl rfl hcell2 hr2 rfl | exact OV.loadKE1 rfl rfl hcell3 hr3 rfl | exact OV.loadKE rfl rfl hcell3 hr3 rfl rfl | exact OV.loadKEF rfl rfl hcell3 hr3 rfl | exact OV.loadKEP rfl rfl hcell3 hr3 rfl))) | refine WC.drawnQ rfl mixed (by kernel_rfl) ?_))
      all_goals try (exfalso; omega)
      · rw [hry] at h
        rw [h, Bool.or_true] at hst3
        have hfull : ∀ m, m ∈ l2 ∨ m = inn ↔ m ∈ into (rows.take i2) (x1, x2) ∨ (m = inn ∧ (ros.take (q + 1)).any (fun y => decide (y = (x1, x2))) = true) := fun m => by
          rw [f3, hst3]
          constructor
          · rintro ((h1 | h1) | h1)
            · exact .inl h1
            · exact .inr ⟨h1.1, rfl⟩
            · exact .inr ⟨h1, rfl⟩
          · rintro (h1 | h1)
            · exact .inl (.inl h1)
            · exact .inr h1.1
        (refine' WO.of (WOX.pure rfl rfl ?_ ?_); rotate_left; focus (intro w hs; exact put_any inn hs (by omega) f2))
        rintro _ _ (⟨h1, rfl, rfl⟩ | ⟨h1, p', c', rfl, rfl⟩)
        · dsimp only [List.cons_append, List.nil_append]
          (repeat' (first | refine WC.seq ?_ | refine WC.region ?_ | refine WL.nil ?_ | refine WD.nil ?_ | refine WQ.next ?_ | refine WC.skip ?_ | refine WC.ret ?_ | refine WC.exit ?_ | refine WC.block ?_ | refine WQ.then_ret ?_ | refine WQ.then_exit ?_ | refine WQ.block_ret ?_ | refine WQ.block_normal ?_ | refine WQ.block_hit ?_ | refine WQ.block_miss rfl ?_ | ((refine WL.run (T := tab) rfl rfl ?_ ?_); (focus (first | exact rfl | omega))) | refine WL.plain rfl ?_ | refine WL.yes rfl rfl rfl ?_ | refine WL.valN rfl rfl rfl rfl rfl rfl ?_ | refine WL.valU rfl rfl rfl rfl rfl rfl ?_ | ((refine WL.split rfl rfl rfl (fun h => ?_) (fun h => ?_)) <;> (try simp only [zH] at h)) | refine WO.of (WOX.buildSlice0 rfl rfl (fun bs => ?_)) | (refine' WO.of (WOX.bslice rfl rfl rfl rfl rfl rfl rfl rfl ?_ (fun bs => ?_)); rotate_left; (focus (simp only [Value.cells, zX, zF]; rfl))) | refine WO.of (WOX.boxA rfl rfl (fun b => ?_)) | refine WO.of (WOX.box1 rfl rfl rfl (fun b => ?_)) | refine WO.of (WOX.allocZ rfl (fun q => ?_)) | (refine' WO.of (WOX.store1 rfl rfl rfl rfl rfl ?_ ?_); rotate_left; (focus (first | (simp only [Nat.reduceAdd, zS]; rfl) | rfl))) | (refine' WO.of (WOX.storeN rfl rfl rfl rfl rfl ?_ ?_); rotate_left; (focus (first | (simp only [overAt, Nat.reduceAdd, zR, zF]; rfl) | rfl))) | (refine' WO.val ?_ rfl rfl ?_; rotate_left; (focus (first | exact OV.load1 rfl rfl rfl | (refine' OV.loadN rfl rfl ?_; any_goals (simp only [rowAt, Nat.reduceAdd, Nat.reduceLeDiff, zR]; rfl)) | ((refine OV.one (T := tab) rfl ?_); (first | exact rfl | omega)) | exact OV.pickT rfl rfl | exact OV.pickF rfl rfl | exact OV.pick rfl rfl rfl | exact OV.field1 rfl rfl rfl | exact OV.field rfl rfl rfl | exact OV.eqNilP rfl rfl | exact OV.neNilP rfl rfl | exact OV.eq2 rfl rfl | exact OV.ne2 rfl rfl | exact OV.neg rfl | (refine OV.shl1 rfl ?_; omega) | (refine' OV.build rfl ?_; any_goals (simp only [fillL, Value.cells, overAt, Nat.reduceAdd, Nat.reduceLeDiff, ite_true, zR, zF]; rfl))| exact OV.loadK1 rfl rfl (by assumption) | exact OV.loadKE1 rfl rfl hcell hr rfl | exact OV.loadKE rfl rfl hcell hr rfl rfl | exact OV.loadKEF rfl rfl hcell hr rfl | exact OV.loadKEP rfl rfl hcell hr rfl | exact OV.loadKE1 rfl rfl hcell2 hr2 rfl | exact OV.loadKE rfl rfl hcell2 hr2 rfl rfl | exact OV.loadKEF rfl rfl hcell2 hr2 rfl | exact OV.loadKEP rfl rfl hcell2 hr2 rfl | exact OV.loadKE1 rfl rfl hcell3 hr3 rfl | exact OV.loadKE rfl rfl hcell3 hr3 rfl rfl | exact OV.loadKEF rfl rfl hcell3 hr3 rfl | exact OV.loadKEP rfl rfl hcell3 hr3 rfl))) | refine WC.condT rfl ?_ | refine WC.condF rfl ?_ | ((refine WC.cond rfl (fun h => ?_) (fun h => ?_)) <;> (try simp only [zH] at h))))
          refine WQ.round (q + 1, pw, cw, l2) ⟨by dsimp only; omega, f2, fun m => ?_, f4, f5⟩ (by dsimp only; omega) (by (repeat' (first | refine Env.Sub.cons rfl ?_ | refine Env.Sub.app ?_ ?_ | exact Env.Sub.nil _))) (fun w hs => by ((try dsimp only [List.cons_append, List.nil_append]); first | exact hs.sub | exact hs))
          dsimp only
          rw [← hfull]
          exact ⟨.inl, fun h2 => h2.elim id (fun e => e ▸ h1)⟩
        · obtain ⟨e1, e2, e3⟩ := putL_rises l2 inn f2 h1
          dsimp only [List.cons_append, List.nil_append]
          (repeat' (first | refine WC.seq ?_ | refine WC.region ?_ | refine WL.nil ?_ | refine WD.nil ?_ | refine WQ.next ?_ | refine WC.skip ?_ | refine WC.ret ?_ | refine WC.exit ?_ | refine WC.block ?_ | refine WQ.then_ret ?_ | refine WQ.then_exit ?_ | refine WQ.block_ret ?_ | refine WQ.block_normal ?_ | refine WQ.block_hit ?_ | refine WQ.block_miss rfl ?_ | ((refine WL.run (T := tab) rfl rfl ?_ ?_); (focus (first | exact rfl | omega))) | refine WL.plain rfl ?_ | refine WL.yes rfl rfl rfl ?_ | refine WL.valN rfl rfl rfl rfl rfl rfl ?_ | refine WL.valU rfl rfl rfl rfl rfl rfl ?_ | ((refine WL.split rfl rfl rfl (fun h => ?_) (fun h => ?_)) <;> (try simp only [zH] at h)) | refine WO.of (WOX.buildSlice0 rfl rfl (fun bs => ?_)) | (refine' WO.of (WOX.bslice rfl rfl rfl rfl rfl rfl rfl rfl ?_ (fun bs => ?_)); rotate_left; (focus (simp only [Value.cells, zX, zF]; rfl))) | refine WO.of (WOX.boxA rfl rfl (fun b => ?_)) | refine WO.of (WOX.box1 rfl rfl rfl (fun b => ?_)) | refine WO.of (WOX.allocZ rfl (fun q => ?_)) | (refine' WO.of (WOX.store1 rfl rfl rfl rfl rfl ?_ ?_); rotate_left; (focus (first | (simp only [Nat.reduceAdd, zS]; rfl) | rfl))) | (refine' WO.of (WOX.storeN rfl rfl rfl rfl rfl ?_ ?_); rotate_left; (focus (first | (simp only [overAt, Nat.reduceAdd, zR, zF]; rfl) | rfl))) | (refine' WO.val ?_ rfl rfl ?_; rotate_left; (focus (first | exact OV.load1 rfl rfl rfl | (refine' OV.loadN rfl rfl ?_; any_goals (simp only [rowAt, Nat.reduceAdd, Nat.reduceLeDiff, zR]; rfl)) | ((refine OV.one (T := tab) rfl ?_); (first | exact rfl | omega)) | exact OV.pickT rfl rfl | exact OV.pickF rfl rfl | exact OV.pick rfl rfl rfl | exact OV.field1 rfl rfl rfl | exact OV.field rfl rfl rfl | exact OV.eqNilP rfl rfl | exact OV.neNilP rfl rfl | exact OV.eq2 rfl rfl | exact OV.ne2 rfl rfl | exact OV.neg rfl | (refine OV.shl1 rfl ?_; omega) | (refine' OV.build rfl ?_; any_goals (simp only [fillL, Value.cells, overAt, Nat.reduceAdd, Nat.reduceLeDiff, ite_true, zR, zF]; rfl))| exact OV.loadK1 rfl rfl (by assumption) | exact OV.loadKE1 rfl rfl hcell hr rfl | exact OV.loadKE rfl rfl hcell hr rfl rfl | exact OV.loadKEF rfl rfl hcell hr rfl | exact OV.loadKEP rfl rfl hcell hr rfl | exact OV.loadKE1 rfl rfl hcell2 hr2 rfl | exact OV.loadKE rfl rfl hcell2 hr2 rfl rfl | exact OV.loadKEF rfl rfl hcell2 hr2 rfl | exact OV.loadKEP rfl rfl hcell2 hr2 rfl | exact OV.loadKE1 rfl rfl hcell3 hr3 rfl | exact OV.loadKE rfl rfl hcell3 hr3 rfl rfl | exact OV.loadKEF rfl rfl hcell3 hr3 rfl | exact OV.loadKEP rfl rfl hcell3 hr3 rfl))) | refine WC.condT rfl ?_ | refine WC.condF rfl ?_ | ((refine WC.cond rfl (fun h => ?_) (fun h => ?_)) <;> (try simp only [zH] at h))))
          refine WQ.round (q + 1, p', c', putL l2 inn) ⟨by dsimp only; omega, e1, fun m => ?_, by dsimp only; have := f5 h1; omega, fun h2 => absurd ((e2 inn).2 (.inl rfl)) h2⟩ (by dsimp only; omega) (by (repeat' (first | refine Env.Sub.cons rfl ?_ | refine Env.Sub.app ?_ ?_ | exact Env.Sub.nil _))) (fun w hs => by ((try dsimp only [List.cons_append, List.nil_append]); first | exact hs.sub | exact hs))
          dsimp only
          rw [← hfull, e2]
          exact ⟨fun h2 => h2.symm, fun h2 => h2.symm⟩
      · rw [hry] at h
        rw [h, Bool.or_false] at hst3
        refine WQ.round (q + 1, pw, cw, l2) ⟨by dsimp only; omega, f2, fun m => ?_, f4, f5⟩ (by dsimp only; omega) (by (repeat' (first | refine Env.Sub.cons rfl ?_ | refine Env.Sub.app ?_ ?_ | exact Env.Sub.nil _))) (fun w hs => by ((try dsimp only [List.cons_append, List.nil_append]); first | exact hs.sub | exact hs))
        dsimp only
        rw [hst3]
        exact f3 m
    · (repeat' (first | refine WC.seq ?_ | refine WC.region ?_ | refine WL.nil ?_ | refine WD.nil ?_ | refine WQ.next ?_ | refine WC.skip ?_ | refine WC.ret ?_ | refine WC.exit ?_ | refine WC.block ?_ | refine WQ.then_ret ?_ | refine WQ.then_exit ?_ | refine WQ.block_ret ?_ | refine WQ.block_normal ?_ | refine WQ.block_hit ?_ | refine WQ.block_miss rfl ?_ | ((refine WL.run (T := tab) rfl rfl ?_ ?_); (focus (first | exact rfl | omega))) | refine WL.plain rfl ?_ | refine WL.yes rfl rfl rfl ?_ | refine WL.valN rfl rfl rfl rfl rfl rfl ?_ | refine WL.valU rfl rfl rfl rfl rfl rfl ?_ | ((refine WL.split rfl rfl rfl (fun h => ?_) (fun h => ?_)) <;> (try simp only [zH] at h)) | refine WO.of (WOX.buildSlice0 rfl rfl (fun bs => ?_)) | (refine' WO.of (WOX.bslice rfl rfl rfl rfl rfl rfl rfl rfl ?_ (fun bs => ?_)); rotate_left; (focus (simp only [Value.cells, zX, zF]; rfl))) | refine WO.of (WOX.boxA rfl rfl (fun b => ?_)) | refine WO.of (WOX.box1 rfl rfl rfl (fun b => ?_)) | refine WO.of (WOX.allocZ rfl (fun q => ?_)) | (refine' WO.of (WOX.store1 rfl rfl rfl rfl rfl ?_ ?_); rotate_left; (focus (first | (simp only [Nat.reduceAdd, zS]; rfl) | rfl))) | (refine' WO.of (WOX.storeN rfl rfl rfl rfl rfl ?_ ?_); rotate_left; (focus (first | (simp only [overAt, Nat.reduceAdd, zR, zF]; rfl) | rfl))) | (refine' WO.val ?_ rfl rfl ?_; rotate_left; (focus (first | exact OV.load1 rfl rfl rfl | (refine' OV.loadN rfl rfl ?_; any_goals (simp only [rowAt, Nat.reduceAdd, Nat.reduceLeDiff, zR]; rfl)) | ((refine OV.one (T := tab) rfl ?_); (first | exact rfl | omega)) | exact OV.pickT rfl rfl | exact OV.pickF rfl rfl | exact OV.pick rfl rfl rfl | exact OV.field1 rfl rfl rfl | exact OV.field rfl rfl rfl | exact OV.eqNilP rfl rfl | exact OV.neNilP rfl rfl | exact OV.eq2 rfl rfl | exact OV.ne2 rfl rfl | exact OV.neg rfl | (refine OV.shl1 rfl ?_; omega) | (refine' OV.build rfl ?_; any_goals (simp only [fillL, Value.cells, overAt, Nat.reduceAdd, Nat.reduceLeDiff, ite_true, zR, zF]; rfl))| exact OV.loadK1 rfl rfl (by assumption) | exact OV.loadKE1 rfl rfl hcell hr rfl | exact OV.loadKE rfl rfl hcell hr rfl rfl | exact OV.loadKEF rfl rfl hcell hr rfl | exact OV.loadKEP rfl rfl hcell hr rfl | exact OV.loadKE1 rfl rfl hcell2 hr2 rfl | exact OV.loadKE rfl rfl hcell2 hr2 rfl rfl | exact OV.loadKEF rfl rfl hcell2 hr2 rfl | exact OV.loadKEP rfl rfl hcell2 hr2 rfl | exact OV.loadKE1 rfl rfl hcell3 hr3 rfl | exact OV.loadKE rfl rfl hcell3 hr3 rfl rfl | exact OV.loadKEF rfl rfl hcell3 hr3 rfl | exact OV.loadKEP rfl rfl hcell3 hr3 rfl))) | refine WC.condT rfl ?_ | refine WC.condF rfl ?_ | ((refine WC.cond rfl (fun h => ?_) (fun h => ?_)) <;> (try simp only [zH] at h))))
      all_goals try (exfalso; omega)
      refine WQ.round (i2 + 1, pw, cw, l2) ⟨by dsimp only; omega, f2, fun m => ?_, by dsimp only; omega⟩ (by dsimp only; omega) (by (repeat' (first | refine Env.Sub.cons rfl ?_ | refine Env.Sub.app ?_ ?_ | exact Env.Sub.nil _))) (fun w hs => by ((try dsimp only [List.cons_append, List.nil_append]); first | exact hs.sub | exact hs))
      dsimp only
      rw [f3, hstep, List.mem_append, show List.take q ros = ros from List.take_of_length_le (by omega)]
      cases ha : (ros.any fun y => decide (y = (x1, x2))) <;> simp
  · have hl : l = finL (into rows (x1, x2)) := rises_unique g2 (finL_spec _).1 fun m => by
      rw [g3, (finL_spec _).2, List.take_of_length_le (by omega)]
    (repeat' (first | refine WC.seq ?_ | refine WC.region ?_ | refine WL.nil ?_ | refine WD.nil ?_ | refine WQ.next ?_ | refine WC.skip ?_ | refine WC.ret ?_ | refine WC.exit ?_ | refine WC.block ?_ | refine WQ.then_ret ?_ | refine WQ.then_exit ?_ | refine WQ.block_ret ?_ | refine WQ.block_normal ?_ | refine WQ.block_hit ?_ | refine WQ.block_miss rfl ?_ | ((refine WL.run (T := tab) rfl rfl ?_ ?_); (focus (first | exact rfl | omega))) | refine WL.plain rfl ?_ | refine WL.yes rfl rfl rfl ?_ | refine WL.valN rfl rfl rfl rfl rfl rfl ?_ | refine WL.valU rfl rfl rfl rfl rfl rfl ?_ | ((refine WL.split rfl rfl rfl (fun h => ?_) (fun h => ?_)) <;> (try simp only [zH] at h)) | refine WO.of (WOX.buildSlice0 rfl rfl (fun bs => ?_)) | (refine' WO.of (WOX.bslice rfl rfl rfl rfl rfl rfl rfl rfl ?_ (fun bs => ?_)); rotate_left; (focus (simp only [Value.cells, zX, zF]; rfl))) | refine WO.of (WOX.boxA rfl rfl (fun b => ?_)) | refine WO.of (WOX.box1 rfl rfl rfl (fun b => ?_)) | refine WO.of (WOX.allocZ rfl (fun q => ?_)) | (refine' WO.of (WOX.store1 rfl rfl rfl rfl rfl ?_ ?_); rotate_left; (focus (first | (simp only [Nat.reduceAdd, zS]; rfl) | rfl))) | (refine' WO.of (WOX.storeN rfl rfl rfl rfl rfl ?_ ?_); rotate_left; (focus (first | (simp only [overAt, Nat.reduceAdd, zR, zF]; rfl) | rfl))) | (refine' WO.val ?_ rfl rfl ?_; rotate_left; (focus (first | exact OV.load1 rfl rfl rfl | (refine' OV.loadN rfl rfl ?_; any_goals (simp only [rowAt, Nat.reduceAdd, Nat.reduceLeDiff, zR]; rfl)) | ((refine OV.one (T := tab) rfl ?_); (first | exact rfl | omega)) | exact OV.pickT rfl rfl | exact OV.pickF rfl rfl | exact OV.pick rfl rfl rfl | exact OV.field1 rfl rfl rfl | exact OV.field rfl rfl rfl | exact OV.eqNilP rfl rfl | exact OV.neNilP rfl rfl | exact OV.eq2 rfl rfl | exact OV.ne2 rfl rfl | exact OV.neg rfl | (refine OV.shl1 rfl ?_; omega) | (refine' OV.build rfl ?_; any_goals (simp only [fillL, Value.cells, overAt, Nat.reduceAdd, Nat.reduceLeDiff, ite_true, zR, zF]; rfl))| exact OV.loadK1 rfl rfl (by assumption) | exact OV.loadKE1 rfl rfl hcell hr rfl | exact OV.loadKE rfl rfl hcell hr rfl rfl | exact OV.loadKEF rfl rfl hcell hr rfl | exact OV.loadKEP rfl rfl hcell hr rfl | exact OV.loadKE1 rfl rfl hcell2 hr2 rfl | exact OV.loadKE rfl rfl hcell2 hr2 rfl rfl | exact OV.loadKEF rfl rfl hcell2 hr2 rfl | exact OV.loadKEP rfl rfl hcell2 hr2 rfl | exact OV.loadKE1 rfl rfl hcell3 hr3 rfl | exact OV.loadKE rfl rfl hcell3 hr3 rfl rfl | exact OV.loadKEF rfl rfl hcell3 hr3 rfl | exact OV.loadKEP rfl rfl hcell3 hr3 rfl))) | refine WC.condT rfl ?_ | refine WC.condF rfl ?_ | ((refine WC.cond rfl (fun h => ?_) (fun h => ?_)) <;> (try simp only [zH] at h))))
    all_goals try (exfalso; omega)
    · refine WQ.ret2 Try.results13 rfl rfl (fun w hs => AnsT.nil ?_ (by ((try dsimp only [List.cons_append, List.nil_append]); first | exact hs.sub | exact hs)))
      rw [hfin, if_pos h]
    · rename_i ha
      refine WQ.ret2 Try.results13 rfl rfl (fun w hs => AnsT.nil ?_ (by ((try dsimp only [List.cons_append, List.nil_append]); first | exact hs.sub | exact hs)))
      rw [hfin, if_neg (by rw [ha]; simp), ← hl, if_pos (by omega)]
    · rename_i ha
      have hval := hfin
      rw [if_neg (by rw [ha]; simp), ← hl, if_neg (by omega)] at hval
      rw [hval]
      exact WQ.ret2 Try.results13 rfl rfl (fun w hs => ⟨_, [numsP (.slice pv l.length cv) l], rfl, ⟨.slice pv l.length cv, rfl, rfl⟩, by ((try dsimp only [List.cons_append, List.nil_append]); first | exact hs.sub | exact hs)⟩)
end
end Go.Proofs.Ytkmjldihlgchdaa.M
