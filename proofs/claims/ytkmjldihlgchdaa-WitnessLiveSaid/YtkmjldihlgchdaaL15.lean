/- Contracts in one form; chunks that are found; loops with what stays. -/
import Derived.Test.YtkmjldihlgchdaaL14
set_option linter.unusedVariables false
set_option linter.unusedSimpArgs false
namespace Go.Proofs.Ytkmjldihlgchdaa.M
/-- The chunks 'pre' stand in L; R are the others. -/
inductive Picks : List HP → List HP → List HP → Prop
  | nil {L} : Picks L [] L
  | cons {L L' pre R A} : Take L A L' → Picks L' pre R → Picks L (A :: pre) R
theorem Picks.perm {L pre R : List HP} (h : Picks L pre R) : L.Perm (pre ++ R) := by
  induction h with
  | nil => exact .refl _
  | cons t _ ih => exact t.perm.trans (.cons _ ih)
theorem Sat.picks {k w : World} {L pre R : List HP} (hs : Sat k w L) (h : Picks L pre R) : Sat k w (pre ++ R) := hs.perm h.perm
/-- A function's contract: what it finds, what it answers, what it leaves; whatever else there is stays. -/
def Spec (P : Program) (f : Nat) (args : List Value) (pre : List HP) {Y : Type} (p : Y → Prop) (r : Y → Value) (post : Y → List HP) : Prop :=
  ∀ (k w : World) (F : List HP), Sat k w (pre ++ F) → Calls P f args.toArray w fun x w' => ∃ y, p y ∧ x = .returned (r y) ∧ Sat k w' (post y ++ F)
def Does (P : Program) (f : Nat) (args : List Value) (pre : List HP) (v : Value) (post : List HP) : Prop :=
  ∀ (k w : World) (F : List HP), Sat k w (pre ++ F) → Calls P f args.toArray w fun x w' => x = .returned v ∧ Sat k w' (post ++ F)
section
variable {P : Program} {k : World} {N : Nat} {Q : Exit → Act → World → Prop} {next : Env → List HP → Prop} {e : Env} {L : List HP} {d : Option Nat} {ty : Nat} {ps : String} {af : Array Edge} {g : Option (Nat × Bool)} {t : Nat} {c : Code}
theorem Does.start {f : Nat} {fn : Func} {args : List Value} {pre post : List HP} {v : Value} (hf : P.funcs[f]? = some fn) (hb : fn.body = some c) (hN : fn.ntmps = N) (hle : Nat.ble args.length N = true)
    (h : ∀ k F, WC P k N c (bodyPost P fn (fun x w' => x = .returned v ∧ Sat k w' (post ++ F))) (Env.ofArgs 0 args) (pre ++ F)) : Does P f args pre v post :=
  fun k w F hs => calls_start hf hb hN hle hs (h k F)
theorem Spec.start {f : Nat} {fn : Func} {args : List Value} {pre : List HP} {Y : Type} {p : Y → Prop} {r : Y → Value} {post : Y → List HP} (hf : P.funcs[f]? = some fn) (hb : fn.body = some c) (hN : fn.ntmps = N) (hle : Nat.ble args.length N = true)
    (h : ∀ k F, WC P k N c (bodyPost P fn (fun x w' => ∃ y, p y ∧ x = .returned (r y) ∧ Sat k w' (post y ++ F))) (Env.ofArgs 0 args) (pre ++ F)) : Spec P f args pre p r post :=
  fun k w F hs => calls_start hf hb hN hle hs (h k F)
theorem Does.spec {f : Nat} {args : List Value} {pre post : List HP} {v : Value} (h : Does P f args pre v post) : Spec P f args pre (fun _ : Unit => True) (fun _ => v) (fun _ => post) :=
  fun k w F hs => Calls.mono (h k w F hs) fun _ _ ⟨a, b⟩ => ⟨(), trivial, a, b⟩
theorem Says.does {f : Nat} {args : List Value} {v : Value} (h : ∀ w, Says P f args.toArray w v) : Does P f args [] v [] :=
  fun k w F hs => Calls.mono (h w) fun _ _ ⟨a, b⟩ => ⟨a, b.lift0 hs⟩
theorem Does.mono {f : Nat} {args : List Value} {pre post pre' post' : List HP} {v v' : Value} (h : Does P f args pre v post) (h1 : ∀ k w F, Sat k w (pre' ++ F) → Sat k w (pre ++ F)) (h2 : ∀ k w F, Sat k w (post ++ F) → Sat k w (post' ++ F)) (hv : v = v') : Does P f args pre' v' post' :=
  fun k w F hs => Calls.mono (h k w F (h1 k w F hs)) fun _ _ ⟨a, b⟩ => ⟨hv ▸ a, h2 _ _ _ b⟩
theorem WOX.spec {F : Nat} {xs : List Operand} {vs : List Value} {ts : Array Nat} {pre R : List HP} {Y : Type} {p : Y → Prop} {r : Y → Value} {post : Y → List HP} [hF : CF P F] (hsp : Spec P F vs pre p r post) (hx : e.evs xs = some vs) (ht : Nat.blt t N = true) (hp : Picks L pre R)
    (h : ∀ y, p y → next ((t, r y) :: e) (post y ++ R)) :
    WOX P k N Q ⟨some t, .call { callee := .value (.func F), args := xs.toArray, argTypes := ts }, ty, ps, af, g⟩ next e L :=
  WOX.fn hx ht (fun w hs => hsp k w R (hs.picks hp)) fun x w' ⟨y, a, b, c⟩ => ⟨r y, post y ++ R, b, c, h y a⟩
theorem WOX.spec0 {F : Nat} {xs : List Operand} {vs : List Value} {ts : Array Nat} {pre R : List HP} {Y : Type} {p : Y → Prop} {r : Y → Value} {post : Y → List HP} [hF : CF P F] (hsp : Spec P F vs pre p r post) (hx : e.evs xs = some vs) (hp : Picks L pre R)
    (h : ∀ y, p y → next e (post y ++ R)) :
    WOX P k N Q ⟨none, .call { callee := .value (.func F), args := xs.toArray, argTypes := ts }, ty, ps, af, g⟩ next e L :=
  WOX.fn0 hx (fun w hs => hsp k w R (hs.picks hp)) fun x w' ⟨y, a, b, c⟩ => ⟨r y, post y ++ R, b, c, h y a⟩
theorem WOX.call1 {F : Nat} {xs : List Operand} {vs : List Value} {ts : Array Nat} {pre R post : List HP} {v : Value} [hF : CF P F] (hsp : Does P F vs pre v post) (hx : e.evs xs = some vs) (ht : Nat.blt t N = true) (hp : Picks L pre R)
    (h : next ((t, v) :: e) (post ++ R)) :
    WOX P k N Q ⟨some t, .call { callee := .value (.func F), args := xs.toArray, argTypes := ts }, ty, ps, af, g⟩ next e L :=
  WOX.fn hx ht (fun w hs => hsp k w R (hs.picks hp)) fun x w' ⟨b, c⟩ => ⟨v, post ++ R, b, c, h⟩
theorem WOX.call10 {F : Nat} {xs : List Operand} {vs : List Value} {ts : Array Nat} {pre R post : List HP} {v : Value} [hF : CF P F] (hsp : Does P F vs pre v post) (hx : e.evs xs = some vs) (hp : Picks L pre R)
    (h : next e (post ++ R)) :
    WOX P k N Q ⟨none, .call { callee := .value (.func F), args := xs.toArray, argTypes := ts }, ty, ps, af, g⟩ next e L :=
  WOX.fn0 hx (fun w hs => hsp k w R (hs.picks hp)) fun x w' ⟨b, c⟩ => ⟨v, post ++ R, b, c, h⟩
/-- A closure is called: what it captured comes behind its arguments. -/
theorem WOX.specC {F f : Nat} {xs : List Operand} {vs us : List Value} {ts : Array Nat} {pre R : List HP} {Y : Type} {p : Y → Prop} {r : Y → Value} {post : Y → List HP} [hF : CF P F] (hf : e.get f = some (.func (.func F) #[] us.toArray)) (hsp : Spec P F (vs ++ us) pre p r post) (hx : e.evs xs = some vs) (ht : Nat.blt t N = true) (hp : Picks L pre R)
    (h : ∀ y, p y → next ((t, r y) :: e) (post y ++ R)) :
    WOX P k N Q ⟨some t, .call { callee := .value (.tmp f), args := xs.toArray, argTypes := ts }, ty, ps, af, g⟩ next e L :=
  WOX.clo hf hx ht (fun w hs => hsp k w R (hs.picks hp)) fun x w' ⟨y, a, b, c⟩ => ⟨r y, post y ++ R, b, c, h y a⟩
/-- A quiet one in a drawn region. -/
theorem DO.call1 {F : Nat} {ops : Array Oper} {rest : List Oper} {xs : List Operand} {vs : List Value} {ts : Array Nat} {pre R : List HP} {v : Value} [hF : CF P F] (hsp : Does P F vs pre v pre) (hx : e.evs xs = some vs) (ht : Nat.blt t N = true) (hp : Picks L pre R) (h : WD P k N ops Q rest ((t, v) :: e) L) :
    DO P k N ops Q ⟨some t, .call { callee := .value (.func F), args := xs.toArray, argTypes := ts }, ty, ps, af, g⟩ rest e L :=
  DO.fn hx ht (fun w hs => Calls.mono (hsp k w R (hs.picks hp)) fun x w' ⟨a, c⟩ => ⟨a, c.perm hp.perm.symm⟩) h
theorem WC.seqR {i : Nat} {l : Array Oper} {b : Bool} {d : Code} (h : WC P k N (.region i l b) (Exit.then (d.wp P Q) Q) e L) : WC P k N (.seq (.region i l b) d) Q e L := WC.seq h
theorem WC.seqS {a b d : Code} (h : WC P k N (.seq a b) (Exit.then (d.wp P Q) Q) e L) : WC P k N (.seq (.seq a b) d) Q e L := WC.seq h
theorem does_of {P : Program} {f : Nat} {args : List Value} {pre : List HP} {v : Value} {post : List HP} (h : ∀ k w F, Sat k w (pre ++ F) → Calls P f args.toArray w fun e w' => e = .returned v ∧ Sat k w' (post ++ F)) : Does P f args pre v post := h
/-- What is not asked for is dropped. -/
instance (priority := 50) subDrop {L L' : List HP} {A : HP} [h : SubL L L'] : SubL (A :: L) L' := ⟨fun f hf => by
  obtain ⟨f1, f2, hd, hu, p, q⟩ := hf
  obtain ⟨g, hg, hq⟩ := h.h f2 q
  refine ⟨g, fun b o e => ?_, hq⟩
  have := hg b o e
  rw [hu b]
  rcases hd b with h | h
  · rw [h, this]; rfl
  · rw [h] at this; cases this⟩
/-! ### Loops -/
theorem Env.get_app (a b : Env) (t : Nat) : (a ++ b).get t = (a.get t).or (b.get t) := by
  induction a with
  | nil => rfl
  | cons x a ih =>
    obtain ⟨q, v⟩ := x
    rw [List.cons_append, Env.get_cons, Env.get_cons]
    split
    · rfl
    · exact ih
theorem Env.Sub.app {a b e : Env} (h1 : Env.Sub a e) (h2 : Env.Sub b e) : Env.Sub (a ++ b) e := by
  intro t v h
  rw [Env.get_app] at h
  cases h3 : a.get t with
  | some u => rw [h3] at h; exact h1 t v (h3.trans h)
  | none => rw [h3] at h; exact h2 t v h
/-- A loop: 'ks' and R stay; 'zs' and 'Lx' turn with x; m falls. -/
theorem WC.loopK {X : Type} (p : X → Prop) (ks : Env) (zs : X → Env) (Lx : X → List HP) (m : X → Nat) (x0 : X) {R : List HP} (hk : Env.Sub ks e) (hz : Env.Sub (zs x0) e) (hL : Picks L (Lx x0) R) (h0 : p x0)
    (round : ∀ x, p x → WC P k N c (Exit.then (fun a' w' => ∃ x', p x' ∧ m x' < m x ∧ Agr N a' (zs x' ++ ks) ∧ Sat k w' (Lx x' ++ R)) Q) (zs x ++ ks) (Lx x ++ R)) : WC P k N (.loop c) Q e L :=
  WC.loop p (fun x => zs x ++ ks) (fun x => Lx x ++ R) m x0 h0 (Env.Sub.app hz hk) (fun w hs => hs.picks hL) round
/-- The same, a join: of the chunks 'A0' become 'Lx x'. -/
theorem WC.cutK {X : Type} {d : Code} (p : X → Prop) (ks : Env) (zs : X → Env) (A0 : List HP) (Lx : X → List HP) {R : List HP} (hk : Env.Sub ks e) (hL : Picks L A0 R)
    (h : WC P k N c (Exit.then (fun a' w' => ∃ x, p x ∧ Agr N a' (zs x ++ ks) ∧ Sat k w' (Lx x ++ R)) Q) e L)
    (next : ∀ x, p x → WC P k N d Q (zs x ++ ks) (Lx x ++ R)) : WC P k N c (Exit.then (d.wp P Q) Q) e L := by
  intro a w ha hs
  refine wp_mono (h a w ha hs) ?_
  intro x a' w' hq
  cases x with
  | normal =>
    obtain ⟨x, hp, ha', hs'⟩ := hq
    exact next x hp a' w' ha' hs'
  | _ => exact hq
end
end Go.Proofs.Ytkmjldihlgchdaa.M
