/- slices.Sort of numbers; slices.Compact. -/
import Derived.Test.YtkmjldihlgchdaaS12
import Derived.Test.YtkmjldihlgchdaaS2
import Derived.Test.YtkmjldihlgchdaaL18
set_option linter.all false
set_option linter.unusedVariables false
set_option linter.unusedSimpArgs false
set_option maxRecDepth 10000
namespace Go.Proofs.Ytkmjldihlgchdaa.M
open Go.Sort
theorem bitLen_le (n : Nat) (hn : n < 2 ^ 64) : Lib.bitLen n ≤ 1000 := by
  have key : ∀ f x : Nat, Lib.bitLenAux f x ≤ f := by
    intro f
    induction f with
    | zero => intro x; simp [Lib.bitLenAux]
    | succ f ih =>
      intro x
      unfold Lib.bitLenAux
      split
      · omega
      · have := ih (x / 2); omega
  have := key 64 n
  unfold Lib.bitLen
  omega
section
attribute [local irreducible] cellsP pts sliceP old Sat WC WL WQ WD WN WX OV WO WOX DO Exit.then Exit.inBlock bodyPost Code.wp NP Calls Env.Sub Does Spec Pure Says arrP
theorem sort_arr (E b o n c : Nat) (D : Array Int) (hn : n ≤ 1152921504606846976) (hD : D.size = n) :
    Spec Try.prog 20 [.slice (some ⟨b, o, none⟩) n c] [arrP E .u64 b o n c D] (fun D' => SortOk 0 n D D') (fun _ => .tuple #[]) (fun D' => [arrP E .u64 b o n c D']) := by
  refine Spec.start (args := [_]) Try.func20 rfl Try.ntmps20 rfl (fun k F => ?_)
  dsimp only [List.cons_append, List.nil_append]
  (repeat' (first | refine WC.seq ?_ | refine WC.region ?_ | refine WL.nil ?_ | refine WD.nil ?_ | refine WQ.next ?_ | refine WC.skip ?_ | refine WC.ret ?_ | refine WC.exit ?_ | refine WQ.then_ret ?_ | refine WQ.then_exit ?_ | refine WQ.block_ret ?_ | refine WQ.block_normal ?_ | refine WQ.block_hit ?_ | refine WQ.block_miss rfl ?_ | ((refine WL.run (T := tab) rfl rfl ?_ ?_); (focus (first | exact rfl | omega))) | refine WL.plain rfl ?_ | refine WL.yes rfl rfl rfl ?_ | refine WL.valN rfl rfl rfl rfl rfl rfl ?_ | refine WL.valU rfl rfl rfl rfl rfl rfl ?_ | ((refine WL.split rfl rfl rfl (fun h => ?_) (fun h => ?_)) <;> (try simp only [zH] at h)) | refine WO.of (WOX.buildSlice0 rfl rfl (fun bs => ?_)) | (refine' WO.of (WOX.bslice rfl rfl rfl rfl rfl rfl rfl rfl ?_ (fun bs => ?_)); rotate_left; (focus (simp only [Value.cells, zX, zF]; rfl))) | refine WO.of (WOX.boxA rfl rfl (fun b => ?_)) | refine WO.of (WOX.box1 rfl rfl rfl (fun b => ?_)) | refine WO.of (WOX.allocZ rfl (fun q => ?_)) | (refine' WO.of (WOX.store1 rfl rfl rfl rfl rfl ?_ ?_); rotate_left; (focus (first | (simp only [Nat.reduceAdd, zS]; rfl) | rfl))) | (refine' WO.of (WOX.storeN rfl rfl rfl rfl rfl ?_ ?_); rotate_left; (focus (first | (simp only [overAt, Nat.reduceAdd, zR, zF]; rfl) | rfl))) | (refine' WO.val ?_ rfl rfl ?_; rotate_left; (focus (first | exact OV.load1 rfl rfl rfl | (refine' OV.loadN rfl rfl ?_; any_goals (simp only [rowAt, Nat.reduceAdd, Nat.reduceLeDiff, zR]; rfl)) | ((refine OV.one (T := tab) rfl ?_); (first | exact rfl | omega)) | exact OV.pickT rfl rfl | exact OV.pickF rfl rfl | exact OV.pick rfl rfl rfl | exact OV.field1 rfl rfl rfl | exact OV.field rfl rfl rfl | exact OV.eqNilP rfl rfl | exact OV.neNilP rfl rfl | exact OV.eq2 rfl rfl | exact OV.ne2 rfl rfl | exact OV.neg rfl | (refine OV.shl1 rfl ?_; omega) | (refine' OV.build rfl ?_; any_goals (simp only [fillL, Value.cells, overAt, Nat.reduceAdd, Nat.reduceLeDiff, ite_true, zR, zF]; rfl)))))))
  (first | refine WO.of (WOX.call1 (bits_Len' n (by omega)) rfl rfl (by (repeat' (first | exact Picks.nil | exact Take.here | refine' Picks.cons ?_ ?_ | refine' Take.there ?_))) ?_) | refine WO.of (WOX.call10 (bits_Len' n (by omega)) rfl (by (repeat' (first | exact Picks.nil | exact Take.here | refine' Picks.cons ?_ ?_ | refine' Take.there ?_))) ?_) | refine WO.of (WOX.spec (bits_Len' n (by omega)) rfl rfl (by (repeat' (first | exact Picks.nil | exact Take.here | refine' Picks.cons ?_ ?_ | refine' Take.there ?_))) ?_) | refine WO.of (WOX.spec0 (bits_Len' n (by omega)) rfl (by (repeat' (first | exact Picks.nil | exact Take.here | refine' Picks.cons ?_ ?_ | refine' Take.there ?_))) ?_))
  dsimp only [List.cons_append, List.nil_append]
  (repeat' (first | refine WC.seq ?_ | refine WC.region ?_ | refine WL.nil ?_ | refine WD.nil ?_ | refine WQ.next ?_ | refine WC.skip ?_ | refine WC.ret ?_ | refine WC.exit ?_ | refine WQ.then_ret ?_ | refine WQ.then_exit ?_ | refine WQ.block_ret ?_ | refine WQ.block_normal ?_ | refine WQ.block_hit ?_ | refine WQ.block_miss rfl ?_ | ((refine WL.run (T := tab) rfl rfl ?_ ?_); (focus (first | exact rfl | omega))) | refine WL.plain rfl ?_ | refine WL.yes rfl rfl rfl ?_ | refine WL.valN rfl rfl rfl rfl rfl rfl ?_ | refine WL.valU rfl rfl rfl rfl rfl rfl ?_ | ((refine WL.split rfl rfl rfl (fun h => ?_) (fun h => ?_)) <;> (try simp only [zH] at h)) | refine WO.of (WOX.buildSlice0 rfl rfl (fun bs => ?_)) | (refine' WO.of (WOX.bslice rfl rfl rfl rfl rfl rfl rfl rfl ?_ (fun bs => ?_)); rotate_left; (focus (simp only [Value.cells, zX, zF]; rfl))) | refine WO.of (WOX.boxA rfl rfl (fun b => ?_)) | refine WO.of (WOX.box1 rfl rfl rfl (fun b => ?_)) | refine WO.of (WOX.allocZ rfl (fun q => ?_)) | (refine' WO.of (WOX.store1 rfl rfl rfl rfl rfl ?_ ?_); rotate_left; (focus (first | (simp only [Nat.reduceAdd, zS]; rfl) | rfl))) | (refine' WO.of (WOX.storeN rfl rfl rfl rfl rfl ?_ ?_); rotate_left; (focus (first | (simp only [overAt, Nat.reduceAdd, zR, zF]; rfl) | rfl))) | (refine' WO.val ?_ rfl rfl ?_; rotate_left; (focus (first | exact OV.load1 rfl rfl rfl | (refine' OV.loadN rfl rfl ?_; any_goals (simp only [rowAt, Nat.reduceAdd, Nat.reduceLeDiff, zR]; rfl)) | ((refine OV.one (T := tab) rfl ?_); (first | exact rfl | omega)) | exact OV.pickT rfl rfl | exact OV.pickF rfl rfl | exact OV.pick rfl rfl rfl | exact OV.field1 rfl rfl rfl | exact OV.field rfl rfl rfl | exact OV.eqNilP rfl rfl | exact OV.neNilP rfl rfl | exact OV.eq2 rfl rfl | exact OV.ne2 rfl rfl | exact OV.neg rfl | (refine OV.shl1 rfl ?_; omega) | (refine' OV.build rfl ?_; any_goals (simp only [fillL, Value.cells, overAt, Nat.reduceAdd, Nat.reduceLeDiff, ite_true, zR, zF]; rfl)))))))
  (first | refine WO.of (WOX.call1 (pdq_sort E b o n c hn n 0 n (Lib.bitLen n) D (by omega) (by omega) (by omega) hD (bitLen_le n (by omega)) (.inl rfl)) rfl rfl (by (repeat' (first | exact Picks.nil | exact Take.here | refine' Picks.cons ?_ ?_ | refine' Take.there ?_))) ?_) | refine WO.of (WOX.call10 (pdq_sort E b o n c hn n 0 n (Lib.bitLen n) D (by omega) (by omega) (by omega) hD (bitLen_le n (by omega)) (.inl rfl)) rfl (by (repeat' (first | exact Picks.nil | exact Take.here | refine' Picks.cons ?_ ?_ | refine' Take.there ?_))) ?_) | refine WO.of (WOX.spec (pdq_sort E b o n c hn n 0 n (Lib.bitLen n) D (by omega) (by omega) (by omega) hD (bitLen_le n (by omega)) (.inl rfl)) rfl rfl (by (repeat' (first | exact Picks.nil | exact Take.here | refine' Picks.cons ?_ ?_ | refine' Take.there ?_))) ?_) | refine WO.of (WOX.spec0 (pdq_sort E b o n c hn n 0 n (Lib.bitLen n) D (by omega) (by omega) (by omega) hD (bitLen_le n (by omega)) (.inl rfl)) rfl (by (repeat' (first | exact Picks.nil | exact Take.here | refine' Picks.cons ?_ ?_ | refine' Take.there ?_))) ?_))
  rintro D' hD'
  dsimp only [List.cons_append, List.nil_append]
  (repeat' (first | refine WC.seq ?_ | refine WC.region ?_ | refine WL.nil ?_ | refine WD.nil ?_ | refine WQ.next ?_ | refine WC.skip ?_ | refine WC.ret ?_ | refine WC.exit ?_ | refine WQ.then_ret ?_ | refine WQ.then_exit ?_ | refine WQ.block_ret ?_ | refine WQ.block_normal ?_ | refine WQ.block_hit ?_ | refine WQ.block_miss rfl ?_ | ((refine WL.run (T := tab) rfl rfl ?_ ?_); (focus (first | exact rfl | omega))) | refine WL.plain rfl ?_ | refine WL.yes rfl rfl rfl ?_ | refine WL.valN rfl rfl rfl rfl rfl rfl ?_ | refine WL.valU rfl rfl rfl rfl rfl rfl ?_ | ((refine WL.split rfl rfl rfl (fun h => ?_) (fun h => ?_)) <;> (try simp only [zH] at h)) | refine WO.of (WOX.buildSlice0 rfl rfl (fun bs => ?_)) | (refine' WO.of (WOX.bslice rfl rfl rfl rfl rfl rfl rfl rfl ?_ (fun bs => ?_)); rotate_left; (focus (simp only [Value.cells, zX, zF]; rfl))) | refine WO.of (WOX.boxA rfl rfl (fun b => ?_)) | refine WO.of (WOX.box1 rfl rfl rfl (fun b => ?_)) | refine WO.of (WOX.allocZ rfl (fun q => ?_)) | (refine' WO.of (WOX.store1 rfl rfl rfl rfl rfl ?_ ?_); rotate_left; (focus (first | (simp only [Nat.reduceAdd, zS]; rfl) | rfl))) | (refine' WO.of (WOX.storeN rfl rfl rfl rfl rfl ?_ ?_); rotate_left; (focus (first | (simp only [overAt, Nat.reduceAdd, zR, zF]; rfl) | rfl))) | (refine' WO.val ?_ rfl rfl ?_; rotate_left; (focus (first | exact OV.load1 rfl rfl rfl | (refine' OV.loadN rfl rfl ?_; any_goals (simp only [rowAt, Nat.reduceAdd, Nat.reduceLeDiff, zR]; rfl)) | ((refine OV.one (T := tab) rfl ?_); (first | exact rfl | omega)) | exact OV.pickT rfl rfl | exact OV.pickF rfl rfl | exact OV.pick rfl rfl rfl | exact OV.field1 rfl rfl rfl | exact OV.field rfl rfl rfl | exact OV.eqNilP rfl rfl | exact OV.neNilP rfl rfl | exact OV.eq2 rfl rfl | exact OV.ne2 rfl rfl | exact OV.neg rfl | (refine OV.shl1 rfl ?_; omega) | (refine' OV.build rfl ?_; any_goals (simp only [fillL, Value.cells, overAt, Nat.reduceAdd, Nat.reduceLeDiff, ite_true, zR, zF]; rfl)))))))
  exact WQ.end0 Try.results20 (fun w hs => ⟨D', hD', rfl, hs⟩)
end
def srt (ns : List Int) : List Int := ns.mergeSort fun x y => decide (x ≤ y)
theorem srt_length (ns : List Int) : (srt ns).length = ns.length := List.length_mergeSort ns
theorem srt_one (ns : List Int) (h : ns.length ≤ 1) : srt ns = ns := by
  match ns, h with
  | [], _ => simp [srt]
  | [x], _ => simp [srt]
theorem sorted_srt (D D' : Array Int) (h : SortOk 0 D.size D D') : D'.toList = srt D.toList := by
  have h0 : D'.size = D.size := h.1.1
  have := sorted_unique_holds swo_ltInt (fun x y h1 h2 => by simp only [ltInt, decide_eq_false_iff_not] at h1 h2; omega) D D' h.1 h.2
  rw [this]
  unfold srt
  congr 1
  funext x y
  show (!decide (y < x)) = decide (x ≤ y)
  by_cases h : x ≤ y
  · simp [h]
  · simp [h]; omega
/-- The numbers of a slice, as an array. -/
def nP (E : Nat) (v : Value) (ns : List Int) : HP := sliceP v E 1 ns.length (ns.map (.int .u64))
theorem Sat.n_arr {k w : World} {L : List HP} {E : Nat} {p : Option Addr} {c : Nat} {ns : List Int} (hs : Sat k w (nP E (.slice p ns.length c) ns :: L)) (h : 0 < ns.length) : ∃ b o, p = some ⟨b, o, none⟩ ∧ Sat k w (arrP E .u64 b o ns.length c ns.toArray :: L) := by
  obtain ⟨b, o, rfl, _⟩ := Sat.slice_ptr (show Sat k w (sliceP (.slice p ns.length c) E 1 ns.length (ns.map (.int .u64)) :: L) from hs) h
  exact ⟨b, o, rfl, Sat.unarr (show Sat k w (sliceP (.slice (some ⟨b, o, none⟩) ns.length c) E 1 ns.length (ns.toArray.toList.map (.int .u64)) :: L) from hs) (by simp)⟩
theorem Sat.arr_n {k w : World} {L : List HP} {E b o n c : Nat} {D : Array Int} {ns : List Int} (hs : Sat k w (arrP E .u64 b o n c D :: L)) (h : D.toList = ns) : Sat k w (nP E (.slice (some ⟨b, o, none⟩) n c) ns :: L) := by
  obtain ⟨hD, h2⟩ := hs.arr
  subst h
  have : D.toList.length = n := by simpa using hD
  unfold nP
  rw [this]
  exact h2
theorem sort_n (E : Nat) (p : Option Addr) (c : Nat) (ns : List Int) (hn : ns.length ≤ 1152921504606846976) :
    Does Try.prog 20 [.slice p ns.length c] [nP E (.slice p ns.length c) ns] (.tuple #[]) [nP E (.slice p ns.length c) (srt ns)] := by
  refine does_of fun k w F hs => ?_
  by_cases h : ns.length ≤ 1
  · refine Calls.mono (sort_1 p ns.length c h w) fun x w' h2 => ⟨h2.1, ?_⟩
    rw [srt_one ns h]
    exact h2.2.lift0 hs
  · obtain ⟨b, o, rfl, hs2⟩ := Sat.n_arr hs (by omega)
    refine Calls.mono (sort_arr E b o ns.length c ns.toArray hn (by simp) k w F hs2) fun x w' ⟨D', h1, h2, h3⟩ => ⟨h2, ?_⟩
    exact Sat.arr_n h3 (by have := sorted_srt ns.toArray D' (by simpa using h1); simpa using this)
end Go.Proofs.Ytkmjldihlgchdaa.M
