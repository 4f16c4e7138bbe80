/- Regions that draw their order and write or call: quiet operations are taken first, one by one; what is left comes up in the order that the edges leave. -/
import Derived.Test.YtkmjldihlgchdaaL4
import Derived.OrdersHeld
set_option linter.unusedVariables false
set_option linter.unusedSimpArgs false
namespace Go.Proofs.Ytkmjldihlgchdaa.M

/-- Q, but False at a panic. -/
def NP (Q : Exit → Act → World → Prop) : Exit → Act → World → Prop
  | .panic _, _, _ => False
  | e, a, w => Q e a w
theorem NP.imp {Q : Exit → Act → World → Prop} : ∀ (e : Exit) (a : Act) (w : World), NP Q e a w → Q e a w := fun e a w h => by
  cases e <;> first | exact h | exact (h : False).elim

section
variable {P : Program} {ops : Array Oper} {Q : Exit → Act → World → Prop} {S : World → Prop} {need : Nat → Bool}

/-- Whatever order is picked from here on; behind each operation that some quiet one does not wait for, S holds. -/
def wpAnyN (P : Program) (ops : Array Oper) (Q : Exit → Act → World → Prop) (S : World → Prop) (need : Nat → Bool) : Nat → Array Bool → Act → World → Prop
  | 0, listed, a, w => Region.ready .any ops listed = [] ∧ Q .normal a w
  | fuel + 1, listed, a, w =>
    (Region.ready .any ops listed = [] → Q .normal a w) ∧
    ∀ i ∈ Region.ready .any ops listed, wpOp P ops Q i (fun a' w' => (need i = true → S w') ∧ wpAnyN P ops Q S need fuel (listed.setIfInBounds i true) a' w') a w

theorem wpAny_of_N : ∀ (fuel : Nat) (listed : Array Bool) (a : Act) (w : World), wpAnyN P ops Q S need fuel listed a w → wpAny P .any ops Q fuel listed a w
  | 0, _, _, _, h => h
  | fuel + 1, _, _, _, h => ⟨h.1, fun i hi => wpOp_mono (fun a' w' h' => wpAny_of_N fuel _ a' w' h'.2) (h.2 i hi)⟩

theorem wpAnyN_first {i : Nat} {oi : Oper} {v : Value} (hi : ops[i]? = some oi) (hsel : ∀ (j : Nat) (o : Oper) cs b, ops[j]? = some o → o.op ≠ .select cs b)
    (hQ : ∀ c a w, Q (.panic c) (a.put oi.dst v) w → Q (.panic c) a w) :
    ∀ (fuel : Nat) (listed : Array Bool) (a : Act) (w : World),
      (∀ j oj, ops[j]? = some oj → j ≠ i → listed.getD j true = false → (∀ e ∈ oj.after, Region.binds .any e = true → e.on ≠ i) → oi.apart ops oj = true ∧ need j = true) →
      i ∈ Region.ready .any ops listed → YieldsIf P ops S oi v a → S w →
      wpAnyN P ops Q S need fuel (listed.setIfInBounds i true) (a.put oi.dst v) w → wpAnyN P ops Q S need (fuel + 1) listed a w := by
  intro fuel
  induction fuel with
  | zero =>
    intro listed a w _ hr hy hS H
    refine ⟨fun h => (by rw [h] at hr; cases hr), fun j hj => ?_⟩
    by_cases hji : j = i
    · subst hji; exact hy.wpOp hi hS ⟨fun _ => hS, H⟩
    · have := ready_mono hj hji
      rw [H.1] at this
      cases this
  | succ fuel ih =>
    intro listed a w hfree hr hy hS H
    refine ⟨fun h => (by rw [h] at hr; cases hr), fun j hj => ?_⟩
    by_cases hji : j = i
    · subst hji; exact hy.wpOp hi hS ⟨fun _ => hS, H⟩
    · have h1 := H.2 j (ready_mono hj hji)
      obtain ⟨hjun, oj, hoj, hall⟩ := mem_ready.1 hj
      have hnot : ∀ e ∈ oj.after, Region.binds .any e = true → e.on ≠ i := fun e he hb heq => by
        have h1 := hall e he hb
        have h0 := (mem_ready.1 hr).1
        rw [heq] at h1
        rcases Nat.lt_or_ge i listed.size with h' | h'
        · simp [h'] at h0 h1; rw [h0] at h1; cases h1
        · simp [Array.getElem?_eq_none h'] at h1
      have hfn := hfree j oj hoj hji hjun hnot
      have h2 := wpOp_putIf hoj hfn.1 (fun cs b => hsel i oi cs b hi) (fun cs b => hsel j oj cs b hoj) hQ hy h1
      have hfree' : ∀ k ok, ops[k]? = some ok → k ≠ i → (listed.setIfInBounds j true).getD k true = false →
          (∀ e ∈ ok.after, Region.binds .any e = true → e.on ≠ i) → oi.apart ops ok = true ∧ need k = true := fun k ok hk hki hun hno => by
        refine hfree k ok hk hki ?_ hno
        by_cases hjk : j = k
        · subst hjk; exact hjun
        · rw [getD_set_ne true hjk] at hun; exact hun
      refine wpOp_mono (fun a' w' h3 => ⟨fun _ => h3.2.1 hfn.2, ih (listed.setIfInBounds j true) a' w' hfree' (ready_mono hr (Ne.symm hji)) h3.1 (h3.2.1 hfn.2) ?_⟩) h2
      rw [Array.setIfInBounds_comm _ _ hji]
      exact h3.2.2
end

section
variable {P : Program} {ops : Array Oper} {Q : Exit → Act → World → Prop} {S : World → Prop} {need : Nat → Bool}
/-- The same for an operation that reads no memory. -/
theorem wpAnyN_firstP {i : Nat} {oi : Oper} {v : Value} (hi : ops[i]? = some oi) (hsel : ∀ (j : Nat) (o : Oper) cs b, ops[j]? = some o → o.op ≠ .select cs b)
    (hQ : ∀ c a w, Q (.panic c) (a.put oi.dst v) w → Q (.panic c) a w) :
    ∀ (fuel : Nat) (listed : Array Bool) (a : Act) (w : World),
      (∀ j oj, ops[j]? = some oj → j ≠ i → listed.getD j true = false → (∀ e ∈ oj.after, Region.binds .any e = true → e.on ≠ i) → oi.apart ops oj = true) →
      i ∈ Region.ready .any ops listed → YieldsIf P ops (fun _ => True) oi v a → (need i = true → S w) →
      wpAnyN P ops Q S need fuel (listed.setIfInBounds i true) (a.put oi.dst v) w → (∀ w', need i = true → S w') ∨ need i = false → wpAnyN P ops Q S need (fuel + 1) listed a w := by
  intro fuel
  induction fuel with
  | zero =>
    intro listed a w _ hr hy hS H hni
    refine ⟨fun h => (by rw [h] at hr; cases hr), fun j hj => ?_⟩
    by_cases hji : j = i
    · subst hji; exact hy.wpOp hi trivial ⟨hS, H⟩
    · have := ready_mono hj hji
      rw [H.1] at this
      cases this
  | succ fuel ih =>
    intro listed a w hfree hr hy hS H hni
    refine ⟨fun h => (by rw [h] at hr; cases hr), fun j hj => ?_⟩
    by_cases hji : j = i
    · subst hji; exact hy.wpOp hi trivial ⟨hS, H⟩
    · have h1 := H.2 j (ready_mono hj hji)
      obtain ⟨hjun, oj, hoj, hall⟩ := mem_ready.1 hj
      have hnot : ∀ e ∈ oj.after, Region.binds .any e = true → e.on ≠ i := fun e he hb heq => by
        have h1 := hall e he hb
        have h0 := (mem_ready.1 hr).1
        rw [heq] at h1
        rcases Nat.lt_or_ge i listed.size with h' | h'
        · simp [h'] at h0 h1; rw [h0] at h1; cases h1
        · simp [Array.getElem?_eq_none h'] at h1
      have hfn := hfree j oj hoj hji hjun hnot
      have h2 := wpOp_putIf hoj hfn (fun cs b => hsel i oi cs b hi) (fun cs b => hsel j oj cs b hoj) hQ hy h1
      have hfree' : ∀ k ok, ops[k]? = some ok → k ≠ i → (listed.setIfInBounds j true).getD k true = false →
          (∀ e ∈ ok.after, Region.binds .any e = true → e.on ≠ i) → oi.apart ops ok = true := fun k ok hk hki hun hno => by
        refine hfree k ok hk hki ?_ hno
        by_cases hjk : j = k
        · subst hjk; exact hjun
        · rw [getD_set_ne true hjk] at hun; exact hun
      refine wpOp_mono (fun a' w' h3 => ⟨h3.2.1, ih (listed.setIfInBounds j true) a' w' hfree' (ready_mono hr (Ne.symm hji)) h3.1 (fun hb => hni.elim (fun h => h w' hb) (fun h => by rw [h] at hb; cases hb)) ?_ hni⟩) h2
      rw [Array.setIfInBounds_comm _ _ hji]
      exact h3.2.2
end

/-! ### What is decided ahead -/
/-- j waits for i by an edge. -/
def waits (ops : Array Oper) (j i : Nat) : Bool := match ops[j]? with
  | some oj => oj.after.any fun e => Region.binds .any e && e.on == i
  | none => false
/-- Some quiet operation (of the list qs) is not waited for by j. -/
def needOf (ops : Array Oper) (nd : List Nat) (j : Nat) : Bool := nd.contains j
/-- i may be taken first: it is ready, apart from whoever does not wait for it, and these keep S. -/
def canTake (ops : Array Oper) (need : Nat → Bool) (listed : Array Bool) (i : Nat) : Bool :=
  (Region.ready .any ops listed).contains i && Region.free .any ops listed i &&
    (List.range ops.size).all fun j => j == i || listed.getD j true || waits ops j i || need j
theorem canTake_spec {ops : Array Oper} {need : Nat → Bool} {listed : Array Bool} {i : Nat} {oi : Oper} (hi : ops[i]? = some oi) (h : canTake ops need listed i = true) :
    i ∈ Region.ready .any ops listed ∧ ∀ j oj, ops[j]? = some oj → j ≠ i → listed.getD j true = false → (∀ e ∈ oj.after, Region.binds .any e = true → e.on ≠ i) → oi.apart ops oj = true ∧ need j = true := by
  simp only [canTake, Bool.and_eq_true] at h
  obtain ⟨⟨h1, h2⟩, h3⟩ := h
  refine ⟨by simpa using h1, fun j oj hj hne hun hno => ⟨Region.free_spec hi h2 j oj hj hne hun hno, ?_⟩⟩
  have h4 := List.all_eq_true.1 h3 j (List.mem_range.2 (Array.getElem?_eq_some_iff.1 hj).1)
  simp only [Bool.or_eq_true, beq_iff_eq, hne, false_or, hun, Bool.false_eq_true] at h4
  rcases h4 with h4 | h4
  · simp only [waits, hj] at h4
    obtain ⟨e, he, hb⟩ := Array.any_eq_true'.1 h4
    simp only [Bool.and_eq_true, beq_iff_eq] at hb
    exact absurd hb.2 (hno e he hb.1)
  · exact h4

/-- i may be taken first, whatever may come up beside it. -/
def canTakeP (ops : Array Oper) (need : Nat → Bool) (listed : Array Bool) (i : Nat) : Bool := (Region.ready .any ops listed).contains i && Region.free .any ops listed i && !(need i)
theorem canTakeP_spec {ops : Array Oper} {need : Nat → Bool} {listed : Array Bool} {i : Nat} {oi : Oper} (hi : ops[i]? = some oi) (h : canTakeP ops need listed i = true) :
    i ∈ Region.ready .any ops listed ∧ (∀ j oj, ops[j]? = some oj → j ≠ i → listed.getD j true = false → (∀ e ∈ oj.after, Region.binds .any e = true → e.on ≠ i) → oi.apart ops oj = true) ∧ need i = false := by
  simp only [canTakeP, Bool.and_eq_true] at h
  obtain ⟨⟨h1, h2⟩, h3⟩ := h
  exact ⟨by simpa using h1, fun j oj hj hne hun hno => Region.free_spec hi h2 j oj hj hne hun hno, by simpa using h3⟩
theorem Sat.self (w : World) : Sat w w [] := ⟨⟨rfl, rfl, rfl⟩, fun _ => none, (fun _ _ h => nomatch h), fun _ => rfl⟩

section
variable (P : Program) (k : World) (N : Nat)
/-- The state of such a region: 'Ls' are the chunks that the quiet operations read; 'need' says whom they may meet. -/
def WN (ops : Array Oper) (Q : Exit → Act → World → Prop) (Ls : List HP) (need : Nat → Bool) (fuel : Nat) (listed : Array Bool) (e : Env) (L : List HP) : Prop :=
  ∀ a w, Agr N a e → Sat k w L → wpAnyN P ops (NP Q) (fun w => Sat k w Ls) need fuel listed a w
/-- Operation number i comes up. -/
def WX (ops : Array Oper) (Q : Exit → Act → World → Prop) (Ls : List HP) (need : Nat → Bool) (fuel : Nat) (listed : Array Bool) (i : Nat) (e : Env) (L : List HP) : Prop :=
  ∀ a w, Agr N a e → Sat k w L → wpOp P ops (NP Q) i (fun a' w' => (need i = true → Sat k w' Ls) ∧ wpAnyN P ops (NP Q) (fun w => Sat k w Ls) need fuel (listed.setIfInBounds i true) a' w') a w
end

section
variable {P : Program} {k : World} {N : Nat} {ops : Array Oper} {Q : Exit → Act → World → Prop} {o : Oper} {e : Env} {L Ls : List HP} {need : Nat → Bool} {fuel : Nat} {listed listed' : Array Bool} {i t : Nat}

theorem WC.net {id : Nat} {l : List Oper} (qs : List Nat) (Ls : List HP) (hm : P.follows .mixedOrders = true)
    (h : WN P k N l.toArray Q Ls (needOf l.toArray qs) l.toArray.size (Array.replicate l.toArray.size false) e L) : WC P k N (.region id l.toArray true) Q e L := by
  intro a w ha hs
  refine wp_mono ?_ NP.imp
  exact wp_region_any hm (wpAny_of_N _ _ _ _ (h a _ ha (hs.drawn _)))
theorem WN.done (hr : Region.ready .any ops listed = []) (h : WQ k N Q .normal e L) : WN P k N ops Q Ls need fuel listed e L := by
  intro a w ha hs
  have hq : NP Q .normal a w := h a w ha hs
  cases fuel with
  | zero => exact ⟨hr, hq⟩
  | succ n => exact ⟨fun _ => hq, by rw [hr]; simp⟩
/-- Take number i first: its guard says yes, or it has none. -/
theorem WN.take (i : Nat) {v : Value} (hi : ops[i]? = some o) (hd : o.dst = some t) (ht : Nat.blt t N = true) (hs : Region.noSelect ops = true) (hc : canTake ops need listed i = true) (hset : listed.setIfInBounds i true = listed') (hL : ∀ w, Sat k w L → Sat k w Ls)
    (hg : o.guard = none) (hv : OV P k N e Ls o v) (h : WN P k N ops Q Ls need fuel listed' ((t, v) :: e) L) : WN P k N ops Q Ls need (fuel + 1) listed e L := by
  intro a w ha hs'
  obtain ⟨c1, c2⟩ := canTake_spec hi hc
  subst hset
  refine wpAnyN_first hi (Region.noSelect_spec hs) (fun _ _ _ h => h) fuel listed a w c2 c1 (.inl ⟨by simp [Region.wanted, hg], fun w hw => hv a w ha hw⟩) (hL w hs') ?_
  rw [hd]
  exact h _ w (ha.put t v ht) hs'
theorem WN.takeYes (i : Nat) {j u : Nat} {b : Bool} {v : Value} (hi : ops[i]? = some o) (hd : o.dst = some t) (ht : Nat.blt t N = true) (hs : Region.noSelect ops = true) (hc : canTake ops need listed i = true) (hset : listed.setIfInBounds i true = listed') (hL : ∀ w, Sat k w L → Sat k w Ls)
    (hg : o.guard = some (j, b)) (hj : (ops[j]?).bind (·.dst) = some u) (hu : e.get u = some (.bool b)) (hv : OV P k N e Ls o v) (h : WN P k N ops Q Ls need fuel listed' ((t, v) :: e) L) : WN P k N ops Q Ls need (fuel + 1) listed e L := by
  intro a w ha hs'
  obtain ⟨c1, c2⟩ := canTake_spec hi hc
  subst hset
  refine wpAnyN_first hi (Region.noSelect_spec hs) (fun _ _ _ h => h) fuel listed a w c2 c1 (.inl ⟨by simp [Region.wanted, hg, yielded_of ha hj hu], fun w hw => hv a w ha hw⟩) (hL w hs') ?_
  rw [hd]
  exact h _ w (ha.put t v ht) hs'
theorem WN.takeNo (i : Nat) {j u : Nat} {b b' : Bool} (hi : ops[i]? = some o) (hd : o.dst = some t) (ht : Nat.blt t N = true) (hs : Region.noSelect ops = true) (hc : canTake ops need listed i = true) (hset : listed.setIfInBounds i true = listed') (hL : ∀ w, Sat k w L → Sat k w Ls)
    (hg : o.guard = some (j, b)) (hj : (ops[j]?).bind (·.dst) = some u) (hu : e.get u = some (.bool b')) (hb : (b' == b) = false) (h : WN P k N ops Q Ls need fuel listed' ((t, undef) :: e) L) : WN P k N ops Q Ls need (fuel + 1) listed e L := by
  intro a w ha hs'
  obtain ⟨c1, c2⟩ := canTake_spec hi hc
  subst hset
  refine wpAnyN_first hi (Region.noSelect_spec hs) (fun _ _ _ h => h) fuel listed a w c2 c1 (.inr ⟨by have hy := yielded_of ha hj hu; simp only [Region.wanted, hg, hy]; cases b <;> cases b' <;> simp_all, rfl⟩) (hL w hs') ?_
  rw [hd]
  exact h _ w (ha.put t undef ht) hs'
/-- Take number i first: it reads no memory. -/
theorem WN.takeP (i : Nat) {v : Value} (hi : ops[i]? = some o) (hd : o.dst = some t) (ht : Nat.blt t N = true) (hs : Region.noSelect ops = true) (hc : canTakeP ops need listed i = true)
    (hg : o.guard = none) (hv : ∀ k, OV P k N e [] o v) (h : WN P k N ops Q Ls need fuel (listed.setIfInBounds i true) ((t, v) :: e) L) : WN P k N ops Q Ls need (fuel + 1) listed e L := by
  intro a w ha hs'
  obtain ⟨c1, c2, c3⟩ := canTakeP_spec hi hc
  refine wpAnyN_firstP hi (Region.noSelect_spec hs) (fun _ _ _ h => h) fuel listed a w c2 c1 (.inl ⟨by simp [Region.wanted, hg], fun w _ => hv w a w ha (Sat.self w)⟩) (fun hb => by rw [c3] at hb; cases hb) ?_ (.inr c3)
  rw [hd]
  exact h _ w (ha.put t v ht) hs'
theorem WN.takePY (i : Nat) {j u : Nat} {b : Bool} {v : Value} (hi : ops[i]? = some o) (hd : o.dst = some t) (ht : Nat.blt t N = true) (hs : Region.noSelect ops = true) (hc : canTakeP ops need listed i = true)
    (hg : o.guard = some (j, b)) (hj : (ops[j]?).bind (·.dst) = some u) (hu : e.get u = some (.bool b)) (hv : ∀ k, OV P k N e [] o v) (h : WN P k N ops Q Ls need fuel (listed.setIfInBounds i true) ((t, v) :: e) L) : WN P k N ops Q Ls need (fuel + 1) listed e L := by
  intro a w ha hs'
  obtain ⟨c1, c2, c3⟩ := canTakeP_spec hi hc
  refine wpAnyN_firstP hi (Region.noSelect_spec hs) (fun _ _ _ h => h) fuel listed a w c2 c1 (.inl ⟨by simp [Region.wanted, hg, yielded_of ha hj hu], fun w _ => hv w a w ha (Sat.self w)⟩) (fun hb => by rw [c3] at hb; cases hb) ?_ (.inr c3)
  rw [hd]
  exact h _ w (ha.put t v ht) hs'
/-- Nothing that is left may meet a quiet operation: what the quiet ones read may be chosen anew. -/
theorem wpAnyN_reset {S S' : World → Prop} {need' : Nat → Bool} : ∀ (fuel : Nat) (listed : Array Bool) (a : Act) (w : World), (∀ i, listed.getD i true = false → need i = false) → wpAnyN P ops Q S' need' fuel listed a w → wpAnyN P ops Q S need fuel listed a w
  | 0, _, _, _, _, h => h
  | fuel + 1, listed, a, w, hn, h => by
    refine ⟨h.1, fun i hi => ?_⟩
    have hni := hn i (mem_ready.1 hi).1
    refine wpOp_mono ?_ (h.2 i hi)
    intro a' w' h'
    refine ⟨fun hb => (by rw [hni] at hb; cases hb), wpAnyN_reset fuel _ a' w' (fun j hj => ?_) h'.2⟩
    by_cases hij : i = j
    · subst hij; exact hni
    · rw [getD_set_ne true hij] at hj; exact hn j hj
theorem WN.reset (qs : List Nat) (hn : (List.range ops.size).all (fun i => listed.getD i true || !(need i)) = true) (hsz : Nat.beq listed.size ops.size = true) (h : WN P k N ops Q L (needOf ops qs) fuel listed e L) : WN P k N ops Q Ls need fuel listed e L := by
  intro a w ha hs
  refine wpAnyN_reset fuel listed a w (fun i hi => ?_) (h a w ha hs)
  have hsz' : listed.size = ops.size := by simpa using hsz
  have hlt : i < ops.size := by
    rcases Nat.lt_or_ge i listed.size with h' | h'
    · omega
    · simp [Array.getElem?_eq_none h'] at hi
  have := List.all_eq_true.1 hn i (List.mem_range.2 hlt)
  rw [hi] at this
  simpa using this
/-- Just one may come up. -/
theorem WN.one (i : Nat) (hr : Region.ready .any ops listed = [i]) (h : WX P k N ops Q Ls need fuel listed i e L) : WN P k N ops Q Ls need (fuel + 1) listed e L := by
  intro a w ha hs
  refine ⟨(fun h0 => by rw [hr] at h0; cases h0), fun j hj => ?_⟩
  rw [hr] at hj
  obtain rfl : j = i := by simpa using hj
  exact h a w ha hs
/-- One of two. -/
theorem WN.two (i j : Nat) (hr : Region.ready .any ops listed = [i, j]) (h : WX P k N ops Q Ls need fuel listed i e L) (h2 : WX P k N ops Q Ls need fuel listed j e L) : WN P k N ops Q Ls need (fuel + 1) listed e L := by
  intro a w ha hs
  refine ⟨(fun h0 => by rw [hr] at h0; cases h0), fun l hl => ?_⟩
  rw [hr] at hl
  rcases List.mem_cons.1 hl with rfl | hl
  · exact h a w ha hs
  · obtain rfl : l = j := by simpa using hl
    exact h2 a w ha hs
/-- What comes up, its guard says no. -/
theorem WX.no {j u : Nat} {b b' : Bool} (hi : ops[i]? = some o) (hg : o.guard = some (j, b)) (hj : (ops[j]?).bind (·.dst) = some u) (hu : e.get u = some (.bool b')) (hb : (b' == b) = false)
    (hd : ∀ t, o.dst = some t → Nat.blt t N = true) (hset : listed.setIfInBounds i true = listed') (hS : need i = true → ∀ w, Sat k w L → Sat k w Ls) (h : WN P k N ops Q Ls need fuel listed' (e.put o.dst undef) L) : WX P k N ops Q Ls need fuel listed i e L := by
  intro a w ha hs
  subst hset
  unfold wpOp
  simp only [hi]
  rw [if_neg (by have hy := yielded_of ha hj hu; simp only [Region.wanted, hg, hy]; cases b <;> cases b' <;> simp_all)]
  refine ⟨fun hn => hS hn w hs, h _ w ?_ hs⟩
  cases hd' : o.dst with
  | none => exact ha
  | some t => exact ha.put t undef (hd t hd')
/-- What comes up is carried out. -/
theorem WX.does (hi : ops[i]? = some o) (hg : o.guard = none) (hset : listed.setIfInBounds i true = listed')
    (h : WOX P k N (NP Q) o (fun e' L' => (need i = true → ∀ w, Sat k w L' → Sat k w Ls) ∧ WN P k N ops Q Ls need fuel listed' e' L') e L) : WX P k N ops Q Ls need fuel listed i e L := by
  intro a w ha hs
  subst hset
  unfold wpOp
  simp only [hi]
  rw [if_pos (by simp [Region.wanted, hg])]
  exact .inl (h _ (fun e' L' hn a w ha hs => ⟨fun hb => hn.1 hb w hs, hn.2 a w ha hs⟩) a w ha hs)
theorem WX.doesYes {j u : Nat} {b : Bool} (hi : ops[i]? = some o) (hg : o.guard = some (j, b)) (hj : (ops[j]?).bind (·.dst) = some u) (hu : e.get u = some (.bool b)) (hset : listed.setIfInBounds i true = listed')
    (h : WOX P k N (NP Q) o (fun e' L' => (need i = true → ∀ w, Sat k w L' → Sat k w Ls) ∧ WN P k N ops Q Ls need fuel listed' e' L') e L) : WX P k N ops Q Ls need fuel listed i e L := by
  intro a w ha hs
  subst hset
  unfold wpOp
  simp only [hi]
  rw [if_pos (by simp [Region.wanted, hg, yielded_of ha hj hu])]
  exact .inl (h _ (fun e' L' hn a w ha hs => ⟨fun hb => hn.1 hb w hs, hn.2 a w ha hs⟩) a w ha hs)
end
end Go.Proofs.Ytkmjldihlgchdaa.M
