/- Heaplets, chunks, environments: the ground of the walks' own logic. -/
import Derived.WalkKit
import Derived.KernelRfl
import Derived.Deep.Quiet
set_option linter.unusedVariables false
set_option linter.unusedSimpArgs false
namespace Go.Proofs.Ytkmjldihlgchdaa.M

/-! ## Heaplets -/
abbrev Hl := Nat → Option Obj
abbrev HP := Hl → Prop

def sepc (A B : HP) : HP := fun h => ∃ h1 h2 : Hl, (∀ b, h1 b = none ∨ h2 b = none) ∧ (∀ b, h b = (h1 b).or (h2 b)) ∧ A h1 ∧ B h2

def stars : List HP → HP
  | [] => fun h => ∀ b, h b = none
  | A :: L => sepc A (stars L)

theorem sepc_mono {A A' B B' : HP} (ha : ∀ h, A h → A' h) (hb : ∀ h, B h → B' h) {h : Hl} : sepc A B h → sepc A' B' h
  | ⟨h1, h2, hd, hu, p, q⟩ => ⟨h1, h2, hd, hu, ha _ p, hb _ q⟩

theorem sepc_swap {A B C : HP} {h : Hl} : sepc A (sepc B C) h → sepc B (sepc A C) h := by
  rintro ⟨h1, h2, hd, hu, p, h3, h4, hd', hu', q, r⟩
  refine ⟨h3, fun b => (h1 b).or (h4 b), ?_, ?_, q, h1, h4, ?_, fun _ => rfl, p, r⟩
  · intro b
    have e := hu' b
    rcases hd' b with h | h
    · exact .inl h
    · rcases hd b with k | k
      · right; show (h1 b).or (h4 b) = none; rw [k, h]; rfl
      · rw [k] at e
        left
        cases h3b : h3 b with
        | none => rfl
        | some x => rw [h3b] at e; simp at e
  · intro b
    rw [hu b, hu' b]
    show (h1 b).or ((h3 b).or (h4 b)) = (h3 b).or ((h1 b).or (h4 b))
    have e := hu' b
    rcases hd b with k | k
    · rw [k]; cases h3 b <;> rfl
    · rw [k] at e
      cases h3b : h3 b with
      | none => rfl
      | some x => rw [h3b] at e; simp at e
  · intro b
    have e := hu' b
    rcases hd b with k | k
    · exact .inl k
    · rw [k] at e
      right
      cases h3b : h3 b with
      | none => rw [h3b] at e; simpa using e.symm
      | some x => rw [h3b] at e; simp at e

theorem sepc_assoc {A B C : HP} {h : Hl} : sepc (sepc A B) C h ↔ sepc A (sepc B C) h := by
  constructor
  · rintro ⟨h12, h3, hd, hu, ⟨h1, h2, hd', hu', p, q⟩, r⟩
    refine ⟨h1, fun b => (h2 b).or (h3 b), ?_, ?_, p, h2, h3, ?_, fun _ => rfl, q, r⟩
    · intro b
      have e := hu' b
      rcases hd b with k | k
      · rw [k] at e
        left
        cases h1b : h1 b with
        | none => rfl
        | some x => rw [h1b] at e; simp at e
      · rcases hd' b with j | j
        · exact .inl j
        · right; show (h2 b).or (h3 b) = none; rw [j, k]; rfl
    · intro b
      rw [hu b, hu' b, Option.or_assoc]
    · intro b
      have e := hu' b
      rcases hd b with k | k
      · rw [k] at e
        left
        cases h2b : h2 b with
        | none => rfl
        | some x => rw [h2b] at e; cases h1 b <;> simp at e
      · exact .inr k
  · rintro ⟨h1, h23, hd, hu, p, ⟨h2, h3, hd', hu', q, r⟩⟩
    refine ⟨fun b => (h1 b).or (h2 b), h3, ?_, ?_, ⟨h1, h2, ?_, fun _ => rfl, p, q⟩, r⟩
    · intro b
      have e := hu' b
      rcases hd b with k | k
      · rcases hd' b with j | j
        · left; show (h1 b).or (h2 b) = none; rw [k, j]; rfl
        · exact .inr j
      · rw [k] at e
        right
        cases h3b : h3 b with
        | none => rfl
        | some x => rw [h3b] at e; cases h2 b <;> simp at e
    · intro b
      rw [hu b, hu' b, Option.or_assoc]
    · intro b
      have e := hu' b
      rcases hd b with k | k
      · exact .inl k
      · rw [k] at e
        right
        cases h2b : h2 b with
        | none => rfl
        | some x => rw [h2b] at e; simp at e

theorem stars_perm {L L' : List HP} (p : L.Perm L') : ∀ {h : Hl}, stars L h → stars L' h := by
  induction p with
  | nil => exact fun h => h
  | cons x _ ih => exact fun h => sepc_mono (fun _ h => h) (fun _ h => ih h) h
  | swap x y l => exact fun h => sepc_swap h
  | trans _ _ i1 i2 => exact fun h => i2 (i1 h)

theorem emp_sepc {A : HP} {h : Hl} : sepc (stars []) A h ↔ A h := by
  constructor
  · rintro ⟨h1, h2, hd, hu, e, k⟩
    have : h = h2 := by funext b; rw [hu b, e b]; rfl
    rwa [this]
  · exact fun k => ⟨fun _ => none, h, fun _ => .inl rfl, fun b => rfl, fun _ => rfl, k⟩

theorem stars_app {L M : List HP} {h : Hl} : stars (L ++ M) h ↔ sepc (stars L) (stars M) h := by
  induction L generalizing h with
  | nil => exact emp_sepc.symm
  | cons A L ih =>
    show sepc A (stars (L ++ M)) h ↔ sepc (sepc A (stars L)) (stars M) h
    rw [sepc_assoc]
    exact ⟨fun k => sepc_mono (fun _ h => h) (fun _ h => ih.1 h) k, fun k => sepc_mono (fun _ h => h) (fun _ h => ih.2 h) k⟩

theorem stars_one {A : HP} {h : Hl} : stars [A] h ↔ A h := by
  constructor
  · rintro ⟨h1, h2, hd, hu, p, e⟩
    have : h = h1 := by funext b; rw [hu b, e b]; simp
    rwa [this]
  · exact fun k => ⟨h, fun _ => none, fun _ => .inr rfl, fun b => by simp, k, fun _ => rfl⟩

/-! ## What a world satisfies -/
/-- The world's outer parts are k's, and its heap bears these chunks, apart from one another. -/
def Sat (k w : World) (L : List HP) : Prop :=
  (w.os = k.os ∧ w.tape = k.tape ∧ w.output = k.output) ∧ ∃ h : Hl, (∀ b o, h b = some o → w.heap[b]? = some o) ∧ stars L h

theorem Sat.perm {k w : World} {L L' : List HP} (hs : Sat k w L) (p : L.Perm L') : Sat k w L' :=
  ⟨hs.1, hs.2.elim fun h k => ⟨h, k.1, stars_perm p k.2⟩⟩

theorem Sat.heap {k w w' : World} {L : List HP} (hs : Sat k w L) (ho : w'.os = w.os) (ht : w'.tape = w.tape) (hu : w'.output = w.output)
    (hh : ∀ (b : Nat) (o : Obj), w.heap[b]? = some o → w'.heap[b]? = some o) : Sat k w' L :=
  ⟨⟨ho.trans hs.1.1, ht.trans hs.1.2.1, hu.trans hs.1.2.2⟩, hs.2.elim fun h k => ⟨h, fun b o e => hh b o (k.1 b o e), k.2⟩⟩

/-- Whoever leaves old blocks alone leaves the chunks. -/
theorem Sat.below {k w w' : World} {L : List HP} (hs : Sat k w L) (hb : Go.RowKit.Below w.heap.size w w') : Sat k w' L :=
  hs.heap hb.os hb.tape hb.output fun b o e => by
    rw [hb.block b (Array.getElem?_eq_some_iff.1 e).1]; exact e

theorem Sat.imp {k w : World} {A B : HP} {L : List HP} (hs : Sat k w (A :: L)) (hi : ∀ h, A h → B h) : Sat k w (B :: L) :=
  ⟨hs.1, hs.2.elim fun h k => ⟨h, k.1, sepc_mono hi (fun _ h => h) k.2⟩⟩

theorem Sat.drop {k w : World} {A : HP} {L : List HP} (hs : Sat k w (A :: L)) : Sat k w L := by
  obtain ⟨h0, h, hh, h1, h2, hd, hu, p, q⟩ := hs
  refine ⟨h0, h2, fun b o e => hh b o ?_, q⟩
  rw [hu b]
  rcases hd b with k | k
  · rw [k, e]; rfl
  · rw [k] at e; cases e

theorem Sat.append_left {k w : World} {A L : List HP} (hs : Sat k w (A ++ L)) : Sat k w L := by
  induction A with
  | nil => exact hs
  | cons X A ih => exact ih hs.drop

theorem Sat.only {k w : World} {L M : List HP} (hs : Sat k w (L ++ M)) : Sat k w L :=
  (hs.perm List.perm_append_comm).append_left

/-- A chunk that says 'there is x'. -/
theorem Sat.ex {k w : World} {X : Type} {A : X → HP} {L : List HP} (hs : Sat k w ((fun h => ∃ x, A x h) :: L)) : ∃ x, Sat k w (A x :: L) := by
  obtain ⟨h0, h, hh, h1, h2, hd, hu, ⟨x, p⟩, q⟩ := hs
  exact ⟨x, h0, h, hh, h1, h2, hd, hu, p, q⟩
/-- A chunk that bears a plain fact. -/
theorem Sat.fact {k w : World} {p : Prop} {A : HP} {L : List HP} (hs : Sat k w ((fun h => p ∧ A h) :: L)) : p ∧ Sat k w (A :: L) := by
  obtain ⟨h0, h, hh, h1, h2, hd, hu, ⟨x, p⟩, q⟩ := hs
  exact ⟨x, h0, h, hh, h1, h2, hd, hu, p, q⟩
theorem Sat.known {k w : World} {A : HP} {L : List HP} (hs : Sat k w (A :: L)) {p : Prop} (hi : ∀ h, A h → p) : p := by
  obtain ⟨h0, h, hh, h1, h2, hd, hu, a, q⟩ := hs
  exact hi _ a
/-- A group of chunks opened, shut. -/
theorem Sat.open {k w : World} {G L : List HP} (hs : Sat k w (stars G :: L)) : Sat k w (G ++ L) :=
  ⟨hs.1, hs.2.elim fun h k => ⟨h, k.1, stars_app.2 k.2⟩⟩
theorem Sat.shut {k w : World} {G L : List HP} (hs : Sat k w (G ++ L)) : Sat k w (stars G :: L) :=
  ⟨hs.1, hs.2.elim fun h k => ⟨h, k.1, stars_app.1 k.2⟩⟩

/-! ## One block -/
def pts (b : Nat) (o : Obj) : HP := fun h => h b = some o

theorem Sat.read {k w : World} {b : Nat} {o : Obj} {L : List HP} (hs : Sat k w (pts b o :: L)) : w.heap[b]? = some o := by
  obtain ⟨h0, h, hh, h1, h2, hd, hu, p, q⟩ := hs
  refine hh b o ?_
  rw [hu b, show h1 b = some o from p]; rfl

/-- The block b, written anew. -/
theorem Sat.write {k w w' : World} {b : Nat} {o o' : Obj} {L : List HP} (hs : Sat k w (pts b o :: L)) (ho : w'.os = w.os) (ht : w'.tape = w.tape) (hu : w'.output = w.output)
    (hb : w'.heap[b]? = some o') (hn : ∀ c : Nat, c ≠ b → ∀ x : Obj, w.heap[c]? = some x → w'.heap[c]? = some x) : Sat k w' (pts b o' :: L) := by
  obtain ⟨h0, h, hh, h1, h2, hd, he, p, q⟩ := hs
  have hb2 : h2 b = none := by
    rcases hd b with k | k
    · rw [show h1 b = some o from p] at k; cases k
    · exact k
  refine ⟨⟨ho.trans h0.1, ht.trans h0.2.1, hu.trans h0.2.2⟩, fun c => if c = b then some o' else h c, ?_, fun c => if c = b then some o' else h1 c, h2, ?_, ?_, ?_, q⟩
  · intro c x e
    by_cases hc : c = b
    · subst hc; simp at e; subst e; exact hb
    · simp [hc] at e; exact hn c hc x (hh c x e)
  · intro c
    by_cases hc : c = b
    · subst hc; exact .inr hb2
    · simp [hc]; exact hd c
  · intro c
    by_cases hc : c = b
    · subst hc; simp
    · simp [hc]; exact he c
  · simp [pts]

/-- A new block. -/
theorem Sat.new {k w w' : World} {b : Nat} {o : Obj} {L : List HP} (hs : Sat k w L) (ho : w'.os = w.os) (ht : w'.tape = w.tape) (hu : w'.output = w.output)
    (hf : w.heap[b]? = none) (hb : w'.heap[b]? = some o) (hn : ∀ (c : Nat) (x : Obj), w.heap[c]? = some x → w'.heap[c]? = some x) : Sat k w' (pts b o :: L) := by
  obtain ⟨h0, h, hh, q⟩ := hs
  have hb2 : h b = none := by
    cases e : h b with
    | none => rfl
    | some x => have := hh b x e; rw [hf] at this; cases this
  refine ⟨⟨ho.trans h0.1, ht.trans h0.2.1, hu.trans h0.2.2⟩, fun c => if c = b then some o else h c, ?_, fun c => if c = b then some o else none, h, ?_, ?_, ?_, q⟩
  · intro c x e
    by_cases hc : c = b
    · subst hc; simp at e; subst e; exact hb
    · simp [hc] at e; exact hn c x (hh c x e)
  · intro c
    by_cases hc : c = b
    · subst hc; exact .inr hb2
    · simp [hc]
  · intro c
    by_cases hc : c = b
    · subst hc; simp
    · simp [hc]
  · simp [pts]

theorem Sat.alloc {k w : World} {L : List HP} (hs : Sat k w L) (o : Obj) : Sat k (w.alloc o) (pts w.heap.size o :: L) :=
  hs.new rfl rfl rfl (by simp) (heap_alloc_new w o) fun c x e => by
    rw [heap_alloc_old w o (Array.getElem?_eq_some_iff.1 e).1]; exact e
theorem Sat.drewN {k w : World} {L : List HP} (hs : Sat k w L) (n : Nat) : Sat k (w.drewN n) L :=
  hs.heap rfl rfl rfl fun _ _ e => e
theorem Sat.drawn {k w : World} {L : List HP} (hs : Sat k w L) (n : Nat) : Sat k { w with drawn := n } L :=
  hs.heap rfl rfl rfl fun _ _ e => e

/-- What was there when the call began. -/
def old (k : World) : HP := fun h => ∀ b, b < k.heap.size → h b = k.heap[b]?
theorem Sat.start (k : World) : Sat k k [old k] :=
  ⟨⟨rfl, rfl, rfl⟩, fun b => k.heap[b]?, fun _ _ e => e, stars_one.2 fun _ _ => rfl⟩
theorem Sat.old_block {k w : World} {L : List HP} (hs : Sat k w (old k :: L)) {b : Nat} (hb : b < k.heap.size) : w.heap[b]? = k.heap[b]? := by
  obtain ⟨h0, h, hh, h1, h2, hd, hu, p, q⟩ := hs
  have e := p b hb
  rw [Array.getElem?_eq_getElem hb] at e ⊢
  refine hh b _ ?_
  rw [hu b, e]; rfl
theorem Sat.of_below {k w : World} {L : List HP} (hs : Sat k w (old k :: L)) : Go.RowKit.Below k.heap.size k w where
  os := hs.1.1
  tape := hs.1.2.1
  output := hs.1.2.2
  size := by
    rcases Nat.lt_or_ge w.heap.size k.heap.size with h | h
    · have := hs.old_block h
      rw [Array.getElem?_eq_getElem h] at this
      simp at this
    · exact h
  block := fun b hb => hs.old_block hb

/-! ## Taking a chunk out of a list, by its place -/
inductive Take : List HP → HP → List HP → Prop
  | here {A L} : Take (A :: L) A L
  | there {A B L L'} : Take L A L' → Take (B :: L) A (B :: L')
theorem Take.perm {L L' : List HP} {A : HP} (t : Take L A L') : L.Perm (A :: L') := by
  induction t with
  | here => exact .refl _
  | there _ ih => exact (List.Perm.cons _ ih).trans (List.Perm.swap _ _ _)
theorem Sat.take {k w : World} {L L' : List HP} {A : HP} (hs : Sat k w L) (t : Take L A L') : Sat k w (A :: L') := hs.perm t.perm
/-- A chunk turned in its place. -/
inductive Upd : List HP → HP → HP → List HP → Prop
  | here {A B L} : Upd (A :: L) A B (B :: L)
  | there {A B C L L'} : Upd L A B L' → Upd (C :: L) A B (C :: L')
theorem Upd.perm {L L' : List HP} {A B : HP} (t : Upd L A B L') : ∃ R, L.Perm (A :: R) ∧ L'.Perm (B :: R) := by
  induction t with
  | here => exact ⟨_, .refl _, .refl _⟩
  | there _ ih =>
    obtain ⟨R, h1, h2⟩ := ih
    exact ⟨_ :: R, (List.Perm.cons _ h1).trans (List.Perm.swap _ _ _), (List.Perm.cons _ h2).trans (List.Perm.swap _ _ _)⟩
theorem Sat.upd {k w w' : World} {L L' : List HP} {A B : HP} (hs : Sat k w L) (t : Upd L A B L') (h : ∀ R, Sat k w (A :: R) → Sat k w' (B :: R)) : Sat k w' L' := by
  obtain ⟨R, h1, h2⟩ := t.perm
  exact (h R (hs.perm h1)).perm h2.symm
/-- A chunk that stands in a list. -/
inductive In : List HP → HP → Prop
  | here {A L} : In (A :: L) A
  | there {A B L} : In L A → In (B :: L) A
theorem In.perm {L : List HP} {A : HP} (t : In L A) : ∃ R, L.Perm (A :: R) := by
  induction t with
  | here => exact ⟨_, .refl _⟩
  | there _ ih =>
    obtain ⟨R, h1⟩ := ih
    exact ⟨_ :: R, (List.Perm.cons _ h1).trans (List.Perm.swap _ _ _)⟩
theorem Sat.at {k w : World} {L : List HP} {A : HP} (hs : Sat k w L) (t : In L A) : ∃ R, Sat k w (A :: R) := by
  obtain ⟨R, h⟩ := t.perm
  exact ⟨R, hs.perm h⟩
theorem Sat.block {k w : World} {L : List HP} {b : Nat} {o : Obj} (hs : Sat k w L) (t : In L (pts b o)) : w.heap[b]? = some o := by
  obtain ⟨R, h⟩ := hs.at t
  exact h.read

/-! ## The same, found by Lean's own search for instances -/
/-- A block of cells of our own. -/
def cellsP (b T : Nat) (cs : List Value) : HP := pts b (.cells cs.toArray T (0, 0))
class CellAt (L : List HP) (b : Nat) (B : outParam Nat) (cs : outParam (List Value)) : Prop where h : In L (cellsP b B cs)
instance (priority := high) cellHere {L : List HP} {b B : Nat} {cs : List Value} : CellAt (cellsP b B cs :: L) b B cs := ⟨.here⟩
instance (priority := low) cellThere {L : List HP} {A : HP} {b B : Nat} {cs : List Value} [h : CellAt L b B cs] : CellAt (A :: L) b B cs := ⟨.there h.h⟩
class OldAt (L : List HP) (k : World) : Prop where h : In L (old k)
instance (priority := high) oldHere {L : List HP} {k : World} : OldAt (old k :: L) k := ⟨.here⟩
instance (priority := low) oldThere {L : List HP} {A : HP} {k : World} [h : OldAt L k] : OldAt (A :: L) k := ⟨.there h.h⟩
/-- The cells of a block turned, in their place. -/
class CellUp (L : List HP) (b : Nat) (B : outParam Nat) (cs : outParam (List Value)) (Lf : outParam (List Value → List HP)) : Prop where h : ∀ cs', Upd L (cellsP b B cs) (cellsP b B cs') (Lf cs')
instance (priority := high) upHere {L : List HP} {b B : Nat} {cs : List Value} : CellUp (cellsP b B cs :: L) b B cs (fun cs' => cellsP b B cs' :: L) := ⟨fun _ => .here⟩
instance (priority := low) upThere {L : List HP} {A : HP} {b B : Nat} {cs : List Value} {Lf : List Value → List HP} [h : CellUp L b B cs Lf] : CellUp (A :: L) b B cs (fun cs' => A :: Lf cs') := ⟨fun cs' => .there (h.h cs')⟩
end Go.Proofs.Ytkmjldihlgchdaa.M
