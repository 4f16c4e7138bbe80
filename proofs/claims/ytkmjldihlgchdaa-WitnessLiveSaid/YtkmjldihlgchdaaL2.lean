/- Environments of temporaries; the judgements; operations that hand back a value and leave the world alone. -/
import Derived.Test.YtkmjldihlgchdaaL1
set_option linter.unusedVariables false
set_option linter.unusedSimpArgs false
namespace Go.Proofs.Ytkmjldihlgchdaa.M

/-! ## Environments -/
abbrev Env := List (Nat × Value)
def Env.get : Env → Nat → Option Value
  | [], _ => none
  | (k, v) :: e, t => cond (Nat.beq k t) (some v) (Env.get e t)
def Env.ev (e : Env) : Operand → Option Value
  | .tmp t => e.get t
  | .const v => some v
  | .global g => some (.pointer (some ⟨g, 0, none⟩))
  | .func f => some (.func (.func f) #[] #[])
def Env.evs (e : Env) : List Operand → Option (List Value)
  | [] => some []
  | x :: xs => match e.ev x, Env.evs e xs with
    | some v, some vs => some (v :: vs)
    | _, _ => none
def Env.put (e : Env) : Option Nat → Value → Env
  | some t, v => (t, v) :: e
  | none, _ => e

structure Agr (N : Nat) (a : Act) (e : Env) : Prop where
  defers : a.defers = []
  size : a.tmps.size = N
  at_ : ∀ t v, e.get t = some v → a.tmps[t]? = some v

theorem Env.get_cons (t : Nat) (v : Value) (e : Env) (u : Nat) : Env.get ((t, v) :: e) u = if t = u then some v else e.get u := by
  simp only [Env.get]
  by_cases h : t = u
  · subst h; simp
  · rw [if_neg h]
    have : Nat.beq t u = false := by
      cases hb : Nat.beq t u with
      | false => rfl
      | true => exact absurd (Nat.eq_of_beq_eq_true hb) h
    rw [this]; rfl

theorem Agr.ev {N : Nat} {a : Act} {e : Env} (h : Agr N a e) {x : Operand} {v : Value} (hx : e.ev x = some v) : a.eval x = v := by
  cases x with
  | tmp t =>
    have := h.at_ t v hx
    simp [Act.eval, Array.getD_eq_getD_getElem?, this]
  | const u => simpa [Env.ev, Act.eval] using hx
  | global g => simpa [Env.ev, Act.eval] using hx
  | func f => simpa [Env.ev, Act.eval] using hx

theorem Agr.evs {N : Nat} {a : Act} {e : Env} (h : Agr N a e) : ∀ {xs : List Operand} {vs : List Value}, e.evs xs = some vs → xs.map a.eval = vs
  | [], vs, hx => by simpa [Env.evs] using hx
  | x :: xs, vs, hx => by
    simp only [Env.evs] at hx
    cases h1 : e.ev x with
    | none => simp [h1] at hx
    | some v =>
      cases h2 : e.evs xs with
      | none => simp [h1, h2] at hx
      | some ws =>
        simp [h1, h2] at hx
        subst hx
        simp [h.ev h1, h.evs h2]

theorem Agr.put {N : Nat} {a : Act} {e : Env} (h : Agr N a e) (t : Nat) (v : Value) (ht : Nat.blt t N = true) : Agr N (a.put (some t) v) ((t, v) :: e) := by
  have ht' : t < a.tmps.size := by rw [h.size]; simpa using ht
  refine ⟨h.defers, by simp [Act.put, h.size], ?_⟩
  intro u x hu
  rw [Env.get_cons] at hu
  by_cases c : t = u
  · subst c
    rw [if_pos rfl] at hu
    injection hu with hu
    subst hu
    simp [Act.put, ht']
  · rw [if_neg c] at hu
    simp only [Act.put]
    rw [Array.getElem?_setIfInBounds_ne c]
    exact h.at_ u x hu
theorem Agr.put_none {N : Nat} {a : Act} {e : Env} (h : Agr N a e) (v : Value) : Agr N (a.put none v) e := h

/-- All that one environment says another says. -/
def Env.Sub (e' e : Env) : Prop := ∀ t v, e'.get t = some v → e.get t = some v
theorem Agr.sub {N : Nat} {a : Act} {e e' : Env} (h : Agr N a e) (hs : Env.Sub e' e) : Agr N a e' := ⟨h.defers, h.size, fun t v k => h.at_ t v (hs t v k)⟩
theorem Env.Sub.nil (e : Env) : Env.Sub [] e := fun t v h => by cases h
theorem Env.Sub.cons {t : Nat} {v : Value} {e' e : Env} (h : e.get t = some v) (hs : Env.Sub e' e) : Env.Sub ((t, v) :: e') e := by
  intro u x hu
  rw [Env.get_cons] at hu
  by_cases c : t = u
  · rw [if_pos c] at hu; injection hu with hu; subst hu; subst c; exact h
  · rw [if_neg c] at hu; exact hs u x hu
theorem Env.Sub.refl (e : Env) : Env.Sub e e := fun _ _ h => h
/-- A temporary that is written without our knowing what. -/
def Env.no (e : Env) (t : Nat) : Bool := match e with
  | [] => true
  | (k, _) :: e => !(Nat.beq k t) && Env.no e t
theorem Env.no_spec {e : Env} {t : Nat} (h : e.no t = true) : e.get t = none := by
  induction e with
  | nil => rfl
  | cons p e ih =>
    obtain ⟨k, v⟩ := p
    simp only [Env.no, Bool.and_eq_true, Bool.not_eq_true'] at h
    simp only [Env.get, h.1, cond_false]
    exact ih h.2
theorem Agr.forget {N : Nat} {a : Act} {e : Env} (h : Agr N a e) (d : Option Nat) (v : Value) (ht : ∀ t, d = some t → e.no t = true) : Agr N (a.put d v) e := by
  cases d with
  | none => exact h
  | some t =>
    refine ⟨h.defers, by simp [Act.put, h.size], ?_⟩
    intro u x hu
    have hn := Env.no_spec (ht t rfl)
    have c : t ≠ u := fun c => by subst c; rw [hn] at hu; cases hu
    simp only [Act.put]
    rw [Array.getElem?_setIfInBounds_ne c]
    exact h.at_ u x hu

/-! ## The judgements -/
section
variable (P : Program) (k : World) (N : Nat)
def WQ (Q : Exit → Act → World → Prop) (x : Exit) (e : Env) (L : List HP) : Prop := ∀ a w, Agr N a e → Sat k w L → Q x a w
def WC (c : Code) (Q : Exit → Act → World → Prop) (e : Env) (L : List HP) : Prop := ∀ a w, Agr N a e → Sat k w L → c.wp P Q a w
def WL (ops : Array Oper) (Q : Exit → Act → World → Prop) (rest : List Oper) (e : Env) (L : List HP) : Prop := ∀ a w, Agr N a e → Sat k w L → wpList P ops Q rest a w
/-- A region that draws its order, all of it quiet. -/
def WD (ops : Array Oper) (Q : Exit → Act → World → Prop) (rest : List Oper) (e : Env) (L : List HP) : Prop :=
  ∀ a, Agr N a e → wpQuiet P ops (fun w => Sat k w L) (fun a' => ∀ w', Sat k w' L → Q .normal a' w') rest a
/-- The operation hands back v, the world as it was. -/
def OV (e : Env) (L : List HP) (o : Oper) (v : Value) : Prop := ∀ a w, Agr N a e → Sat k w L → (execOp a.eval o).run P w = .ok (.value v) w
/-- What the operation does, its guard apart. -/
def WO (ops : Array Oper) (Q : Exit → Act → World → Prop) (o : Oper) (rest : List Oper) (e : Env) (L : List HP) : Prop :=
  ∀ a w, Agr N a e → Sat k w L → o.wp P a w (wpList P ops Q rest) Q ∨ (o.asks P a w ∧ LetsOut Q)
end

section
variable {P : Program} {k : World} {N : Nat} {ops : Array Oper} {Q : Exit → Act → World → Prop} {o : Oper} {rest : List Oper} {e : Env} {L : List HP} {c d : Code}

/-! ### Control -/
theorem WC.seq (h : WC P k N c (Exit.then (d.wp P Q) Q) e L) : WC P k N (.seq c d) Q e L := fun a w ha hs => wp_seq (h a w ha hs)
theorem WQ.next (h : WC P k N d Q e L) : WQ k N (Exit.then (d.wp P Q) Q) .normal e L := fun a w ha hs => h a w ha hs
theorem WC.skip (h : WQ k N Q .normal e L) : WC P k N .skip Q e L := fun a w ha hs => wp_skip (h a w ha hs)
theorem WC.ret (h : WQ k N Q .ret e L) : WC P k N .ret Q e L := fun a w ha hs => wp_ret (h a w ha hs)
theorem WC.exit {i : Nat} (h : WQ k N Q (.exit i) e L) : WC P k N (.exit i) Q e L := fun a w ha hs => wp_exit (h a w ha hs)
theorem WC.block {i : Nat} (h : WC P k N c (Exit.inBlock i Q) e L) : WC P k N (.block i c) Q e L := fun a w ha hs => wp_block (h a w ha hs)
theorem WC.cond {x : Operand} {t : Bool} (hx : e.ev x = some (.bool t)) (ht : t = true → WC P k N c Q e L) (hf : t = false → WC P k N d Q e L) : WC P k N (.cond x c d) Q e L :=
  fun a w ha hs => wp_cond_split (ha.ev hx) (fun h => ht h a w ha hs) (fun h => hf h a w ha hs)
theorem WC.region {i : Nat} {l : List Oper} (h : WL P k N l.toArray Q l e L) : WC P k N (.region i l.toArray false) Q e L := fun a w ha hs => wp_region_lit (h a w ha hs)
theorem WC.drawn {i : Nat} {l : List Oper} (hm : P.follows .mixedOrders = true) (hB : Region.lexB .any l.toArray = true) (h : WD P k N l.toArray Q l e L) : WC P k N (.region i l.toArray true) Q e L := by
  intro a w ha hs
  exact wp_region_quiet (C := fun w => Sat k w L) hm hB (hs.drawn _) (by simpa using h a ha)
theorem WL.nil (h : WQ k N Q .normal e L) : WL P k N ops Q [] e L := fun a w ha hs => wpList_nil (h a w ha hs)
theorem WD.nil (h : WQ k N Q .normal e L) : WD P k N ops Q [] e L := fun a ha => wpQuiet_nil fun w hs => h a w ha hs
/-- Exits through what stands round them. -/
theorem WQ.then_ret {K : Act → World → Prop} (h : WQ k N Q .ret e L) : WQ k N (Exit.then K Q) .ret e L := h
theorem WQ.then_exit {K : Act → World → Prop} {i : Nat} (h : WQ k N Q (.exit i) e L) : WQ k N (Exit.then K Q) (.exit i) e L := h
theorem WQ.block_ret {i : Nat} (h : WQ k N Q .ret e L) : WQ k N (Exit.inBlock i Q) .ret e L := h
theorem WQ.block_normal {i : Nat} (h : WQ k N Q .normal e L) : WQ k N (Exit.inBlock i Q) .normal e L := h
theorem WQ.block_hit {i : Nat} (h : WQ k N Q .normal e L) : WQ k N (Exit.inBlock i Q) (.exit i) e L := fun a w ha hs => by
  show (if i = i then Q .normal a w else Q (.exit i) a w)
  rw [if_pos rfl]; exact h a w ha hs
theorem WQ.block_miss {i j : Nat} (hn : Nat.beq j i = false) (h : WQ k N Q (.exit j) e L) : WQ k N (Exit.inBlock i Q) (.exit j) e L := fun a w ha hs => by
  have : j ≠ i := fun c => by subst c; simp at hn
  show (if j = i then Q .normal a w else Q (.exit j) a w)
  rw [if_neg this]; exact h a w ha hs

/-- What is known may be weakened. -/
theorem WC.weaken {e' : Env} {L' : List HP} (he : Env.Sub e' e) (hl : ∀ w, Sat k w L → Sat k w L') (h : WC P k N c Q e' L') : WC P k N c Q e L := fun a w ha hs => h a w (ha.sub he) (hl w hs)
theorem WL.weaken {e' : Env} {L' : List HP} (he : Env.Sub e' e) (hl : ∀ w, Sat k w L → Sat k w L') (h : WL P k N ops Q rest e' L') : WL P k N ops Q rest e L := fun a w ha hs => h a w (ha.sub he) (hl w hs)
theorem WQ.weaken {x : Exit} {e' : Env} {L' : List HP} (he : Env.Sub e' e) (hl : ∀ w, Sat k w L → Sat k w L') (h : WQ k N Q x e' L') : WQ k N Q x e L := fun a w ha hs => h a w (ha.sub he) (hl w hs)

/-- A loop: x says where it stands; 'm' falls. -/
theorem WC.loop {X : Type} (p : X → Prop) (en : X → Env) (Lx : X → List HP) (m : X → Nat) (x0 : X) (h0 : p x0) (he : Env.Sub (en x0) e) (hl : ∀ w, Sat k w L → Sat k w (Lx x0))
    (round : ∀ x, p x → WC P k N c (Exit.then (fun a' w' => ∃ x', p x' ∧ m x' < m x ∧ Agr N a' (en x') ∧ Sat k w' (Lx x')) Q) (en x) (Lx x)) : WC P k N (.loop c) Q e L := by
  intro a w ha hs
  refine fun b k' cs => ?_
  have key : ∀ n x a w, m x = n → p x → Agr N a (en x) → Sat k w (Lx x) →
      ∃ e a' w', Q e a' w' ∧ Arrives P (lone (b.at a (.code c :: .inLoop c :: k')) cs w) b k' cs e a' w' := by
    intro n
    induction n using Nat.strongRecOn with
    | _ n ih =>
      intro x a w hn hp ha hs
      obtain ⟨e, a₁, w₁, hq, harr⟩ := round x hp a w ha hs b (.inLoop c :: k') cs
      cases e with
      | normal =>
        obtain ⟨x', hp', hlt, ha', hs'⟩ := hq
        obtain ⟨e₂, a₂, w₂, hq₂, harr₂⟩ := ih (m x') (hn ▸ hlt) x' a₁ w₁ rfl hp' ha' hs'
        exact ⟨e₂, a₂, w₂, hq₂, .of_steps (Steps.trans harr (.one step_inLoop)) harr₂⟩
      | exit id => exact ⟨_, a₁, w₁, hq, .pass (x := .inLoop c) rfl (fun _ _ => .inl (by simp)) harr⟩
      | goto l => exact ⟨_, a₁, w₁, hq, .pass (x := .inLoop c) rfl (fun _ _ => .inl (by simp)) harr⟩
      | ret => exact ⟨_, a₁, w₁, hq, .pass (x := .inLoop c) rfl (fun _ _ => .inl (by simp)) harr⟩
      | panic ch => exact ⟨_, a₁, w₁, hq, .pass (x := .inLoop c) rfl (fun _ _ => .inl (by simp)) harr⟩
      | outgrown => exact ⟨_, a₁, w₁, hq, .pass (x := .inLoop c) rfl (fun _ _ => .inl (by simp)) harr⟩
  obtain ⟨e', a', w', hq, harr⟩ := key _ x0 a w rfl h0 (ha.sub he) (hl w hs)
  exact ⟨e', a', w', hq, .of_steps (.one step_loop) harr⟩
theorem WQ.round {X : Type} {p : X → Prop} {en : X → Env} {Lx : X → List HP} {m : X → Nat} {mx : Nat} (x' : X) (hp : p x') (hm : m x' < mx) (he : Env.Sub (en x') e) (hl : ∀ w, Sat k w L → Sat k w (Lx x')) :
    WQ k N (Exit.then (fun a' w' => ∃ x', p x' ∧ m x' < mx ∧ Agr N a' (en x') ∧ Sat k w' (Lx x')) Q) .normal e L :=
  fun a w ha hs => ⟨x', hp, hm, ha.sub he, hl w hs⟩

/-- A join: whatever way one comes to the end of c, there 'x' holds. -/
theorem WC.cut {X : Type} (p : X → Prop) (en : X → Env) (Lx : X → List HP)
    (h : WC P k N c (Exit.then (fun a' w' => ∃ x, p x ∧ Agr N a' (en x) ∧ Sat k w' (Lx x)) Q) e L)
    (next : ∀ x, p x → WC P k N d Q (en x) (Lx x)) : WC P k N (.seq c d) Q e L := by
  intro a w ha hs
  refine wp_seq (wp_mono (h a w ha hs) ?_)
  intro x a' w' hq
  cases x with
  | normal =>
    obtain ⟨x, hp, ha', hs'⟩ := hq
    exact next x hp a' w' ha' hs'
  | _ => exact hq
theorem WQ.join {X : Type} {p : X → Prop} {en : X → Env} {Lx : X → List HP} (x : X) (hp : p x) (he : Env.Sub (en x) e) (hl : ∀ w, Sat k w L → Sat k w (Lx x)) :
    WQ k N (Exit.then (fun a' w' => ∃ x, p x ∧ Agr N a' (en x) ∧ Sat k w' (Lx x)) Q) .normal e L :=
  fun a w ha hs => ⟨x, hp, ha.sub he, hl w hs⟩

/-! ### One operation -/
theorem WL.plain (hg : o.guard = none) (h : WO P k N ops Q o rest e L) : WL P k N ops Q (o :: rest) e L := by
  intro a w ha hs
  unfold wpList
  rw [if_pos (by simp [Region.wanted, hg])]
  exact h a w ha hs
theorem yielded_of {a : Act} (ha : Agr N a e) {j t : Nat} {b : Bool} (hj : (ops[j]?).bind (·.dst) = some t) (ht : e.get t = some (.bool b)) : yielded ops a.tmps j = some b := by
  unfold yielded
  rw [hj, Option.bind_some, ha.at_ t _ ht]
/-- Its guard says yes. -/
theorem WL.yes {j t : Nat} {b : Bool} (hg : o.guard = some (j, b)) (hj : (ops[j]?).bind (·.dst) = some t) (ht : e.get t = some (.bool b)) (h : WO P k N ops Q o rest e L) : WL P k N ops Q (o :: rest) e L := by
  intro a w ha hs
  unfold wpList
  rw [if_pos (by simp [Region.wanted, hg, yielded_of ha hj ht])]
  exact h a w ha hs
/-- Its guard says no. -/
theorem WL.no {j t : Nat} {b b' : Bool} (hg : o.guard = some (j, b)) (hj : (ops[j]?).bind (·.dst) = some t) (ht : e.get t = some (.bool b')) (hb : (b' == b) = false)
    (hd : ∀ t, o.dst = some t → Nat.blt t N = true) (h : WL P k N ops Q rest (e.put o.dst undef) L) : WL P k N ops Q (o :: rest) e L := by
  intro a w ha hs
  unfold wpList
  rw [if_neg (by
    have hy := yielded_of ha hj ht
    simp only [Region.wanted, hg, hy]
    cases b <;> cases b' <;> simp_all)]
  refine h _ w ?_ hs
  cases hd' : o.dst with
  | none => exact ha
  | some t => exact ha.put t undef (hd t hd')
/-- It hands back a value. -/
theorem WO.val {v : Value} {t : Nat} (hv : OV P k N e L o v) (hd : o.dst = some t) (ht : Nat.blt t N = true) (h : WL P k N ops Q rest ((t, v) :: e) L) : WO P k N ops Q o rest e L := by
  intro a w ha hs
  refine .inl ?_
  unfold Oper.wp
  rw [hv a w ha hs]
  show wpList P ops Q rest (a.put o.dst v) w
  rw [hd]
  exact h _ w (ha.put t v ht) hs
theorem WL.val {v : Value} {t : Nat} (hg : o.guard = none) (hd : o.dst = some t) (ht : Nat.blt t N = true) (hv : OV P k N e L o v) (h : WL P k N ops Q rest ((t, v) :: e) L) : WL P k N ops Q (o :: rest) e L :=
  WL.plain hg (WO.val hv hd ht h)
theorem WD.val {v : Value} {t : Nat} (hg : o.guard = none) (hd : o.dst = some t) (ht : Nat.blt t N = true) (hv : OV P k N e L o v) (h : WD P k N ops Q rest ((t, v) :: e) L) : WD P k N ops Q (o :: rest) e L := by
  intro a ha
  unfold wpQuiet
  rw [if_pos (by simp [Region.wanted, hg])]
  refine ⟨v, fun w hs => ?_, ?_⟩
  · unfold Oper.quietAt
    rw [hv a w ha hs]
    exact ⟨rfl, rfl⟩
  · rw [hd]
    exact h _ (ha.put t v ht)
/-- The same, its guard apart. -/
def DO (P : Program) (k : World) (N : Nat) (ops : Array Oper) (Q : Exit → Act → World → Prop) (o : Oper) (rest : List Oper) (e : Env) (L : List HP) : Prop :=
  ∀ a, Agr N a e → o.quiet P a (fun w => Sat k w L) (wpQuiet P ops (fun w => Sat k w L) (fun a' => ∀ w', Sat k w' L → Q .normal a' w') rest)
theorem WD.plain (hg : o.guard = none) (h : DO P k N ops Q o rest e L) : WD P k N ops Q (o :: rest) e L := by
  intro a ha
  unfold wpQuiet
  rw [if_pos (by simp [Region.wanted, hg])]
  exact h a ha
theorem WD.yes {j t : Nat} {b : Bool} (hg : o.guard = some (j, b)) (hj : (ops[j]?).bind (·.dst) = some t) (ht : e.get t = some (.bool b)) (h : DO P k N ops Q o rest e L) : WD P k N ops Q (o :: rest) e L := by
  intro a ha
  unfold wpQuiet
  rw [if_pos (by simp [Region.wanted, hg, yielded_of ha hj ht])]
  exact h a ha
theorem DO.val {v : Value} {t : Nat} (hd : o.dst = some t) (ht : Nat.blt t N = true) (hv : OV P k N e L o v) (h : WD P k N ops Q rest ((t, v) :: e) L) : DO P k N ops Q o rest e L := by
  intro a ha
  refine ⟨v, fun w hs => ?_, ?_⟩
  · unfold Oper.quietAt
    rw [hv a w ha hs]
    exact ⟨rfl, rfl⟩
  · rw [hd]
    exact h _ (ha.put t v ht)
/-- A call whose answer is the same in every such world, and which leaves such a world. -/
theorem DO.quiet {v : Value} {t : Nat} (hd : o.dst = some t) (ht : Nat.blt t N = true)
    (hv : ∀ a w, Agr N a e → Sat k w L → ∃ f args, (execOp a.eval o).run P w = .ok (.enter f args) w ∧ Calls P f args w (fun e w'' => e = .returned v ∧ Sat k w'' L))
    (h : WD P k N ops Q rest ((t, v) :: e) L) : DO P k N ops Q o rest e L := by
  intro a ha
  refine ⟨v, fun w hs => ?_, ?_⟩
  · obtain ⟨f, args, h1, h2⟩ := hv a w ha hs
    unfold Oper.quietAt
    rw [h1]
    exact ⟨rfl, h2⟩
  · rw [hd]
    exact h _ (ha.put t v ht)
/-- What an operation does, its guard apart, whatever comes behind it. -/
def WOX (P : Program) (k : World) (N : Nat) (Q : Exit → Act → World → Prop) (o : Oper) (next : Env → List HP → Prop) (e : Env) (L : List HP) : Prop :=
  ∀ (K : Act → World → Prop), (∀ e' L', next e' L' → ∀ a w, Agr N a e' → Sat k w L' → K a w) → ∀ a w, Agr N a e → Sat k w L → o.wp P a w K Q
theorem WO.of (h : WOX P k N Q o (fun e' L' => WL P k N ops Q rest e' L') e L) : WO P k N ops Q o rest e L := fun a w ha hs => .inl (h _ (fun e' L' hn => hn) a w ha hs)
theorem WL.does (hg : o.guard = none) (h : WOX P k N Q o (fun e' L' => WL P k N ops Q rest e' L') e L) : WL P k N ops Q (o :: rest) e L := WL.plain hg (WO.of h)
theorem WL.doesYes {j t : Nat} {b : Bool} (hg : o.guard = some (j, b)) (hj : (ops[j]?).bind (·.dst) = some t) (ht : e.get t = some (.bool b)) (h : WOX P k N Q o (fun e' L' => WL P k N ops Q rest e' L') e L) : WL P k N ops Q (o :: rest) e L := WL.yes hg hj ht (WO.of h)
theorem WOX.mono {next next' : Env → List HP → Prop} (hn : ∀ e L, next e L → next' e L) (h : WOX P k N Q o next e L) : WOX P k N Q o next' e L := fun K hK => h K fun e' L' h' => hK e' L' (hn _ _ h')
variable {next : Env → List HP → Prop}
theorem WOX.val {v : Value} {t : Nat} (hd : o.dst = some t) (ht : Nat.blt t N = true) (hv : OV P k N e L o v) (h : next ((t, v) :: e) L) : WOX P k N Q o next e L := by
  intro K hK a w ha hs
  unfold Oper.wp
  rw [hv a w ha hs]
  show K (a.put o.dst v) w
  rw [hd]
  exact hK _ _ h _ w (ha.put t v ht) hs
/-- A call. -/
theorem WOX.call {f : Nat} {args : Array Value} {R : Ending → World → Prop} {t : Nat} (hd : o.dst = some t) (ht : Nat.blt t N = true)
    (hv : ∀ a w, Agr N a e → Sat k w L → (execOp a.eval o).run P w = .ok (.enter f args) w)
    (spec : ∀ w, Sat k w L → Calls P f args w R)
    (h : ∀ x w', R x w' → ∃ v L', x = .returned v ∧ Sat k w' L' ∧ next ((t, v) :: e) L') : WOX P k N Q o next e L := by
  intro K hK a w ha hs
  unfold Oper.wp
  rw [hv a w ha hs, Oper.upon_enter]
  refine (spec w hs).mono fun x w' hR => ?_
  obtain ⟨v, L', rfl, hs', hn⟩ := h x w' hR
  show K (a.put o.dst v) w'
  rw [hd]
  exact hK _ _ hn _ w' (ha.put t v ht) hs'
theorem WOX.call0 {f : Nat} {args : Array Value} {R : Ending → World → Prop} (hd : o.dst = none)
    (hv : ∀ a w, Agr N a e → Sat k w L → (execOp a.eval o).run P w = .ok (.enter f args) w)
    (spec : ∀ w, Sat k w L → Calls P f args w R)
    (h : ∀ x w', R x w' → ∃ v L', x = .returned v ∧ Sat k w' L' ∧ next e L') : WOX P k N Q o next e L := by
  intro K hK a w ha hs
  unfold Oper.wp
  rw [hv a w ha hs, Oper.upon_enter]
  refine (spec w hs).mono fun x w' hR => ?_
  obtain ⟨v, L', rfl, hs', hn⟩ := h x w' hR
  show K (a.put o.dst v) w'
  rw [hd]
  exact hK _ _ hn _ w' ha hs'
/-- It changes the world, and hands back a value. -/
theorem WOX.does {t : Nat} (hd : o.dst = some t) (ht : Nat.blt t N = true)
    (hv : ∀ a w, Agr N a e → Sat k w L → ∃ v w' L', (execOp a.eval o).run P w = .ok (.value v) w' ∧ Sat k w' L' ∧ next ((t, v) :: e) L') : WOX P k N Q o next e L := by
  intro K hK a w ha hs
  obtain ⟨v, w', L', h1, hs', hn⟩ := hv a w ha hs
  unfold Oper.wp
  rw [h1]
  show K (a.put o.dst v) w'
  rw [hd]
  exact hK _ _ hn _ w' (ha.put t v ht) hs'
theorem WOX.does0 (hd : o.dst = none)
    (hv : ∀ a w, Agr N a e → Sat k w L → ∃ w' L', ((execOp a.eval o).run P w = .ok .skip w' ∨ ∃ v, (execOp a.eval o).run P w = .ok (.value v) w') ∧ Sat k w' L' ∧ next e L') : WOX P k N Q o next e L := by
  intro K hK a w ha hs
  obtain ⟨w', L', h1, hs', hn⟩ := hv a w ha hs
  unfold Oper.wp
  rcases h1 with h1 | ⟨v, h1⟩
  · rw [h1]
    show K (a.put o.dst undef) w'
    rw [hd]
    exact hK _ _ hn _ w' ha hs'
  · rw [h1]
    show K (a.put o.dst v) w'
    rw [hd]
    exact hK _ _ hn _ w' ha hs'
/-- The chunks looked at anew, the world as it is. -/
theorem WL.turn (h : ∀ w, Sat k w L → ∃ L', Sat k w L' ∧ WL P k N ops Q rest e L') : WL P k N ops Q rest e L := fun a w ha hs =>
  let ⟨_, hs', hn⟩ := h w hs; hn a w ha hs'
theorem WC.turn (h : ∀ w, Sat k w L → ∃ L', Sat k w L' ∧ WC P k N c Q e L') : WC P k N c Q e L := fun a w ha hs =>
  let ⟨_, hs', hn⟩ := h w hs; hn a w ha hs'
theorem WQ.turn {x : Exit} (h : ∀ w, Sat k w L → ∃ L', Sat k w L' ∧ WQ k N Q x e L') : WQ k N Q x e L := fun a w ha hs =>
  let ⟨_, hs', hn⟩ := h w hs; hn a w ha hs'
end
end Go.Proofs.Ytkmjldihlgchdaa.M
