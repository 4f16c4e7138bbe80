/- Runs of operations that need no memory, reckoned at once. -/
import Derived.Test.YtkmjldihlgchdaaL9
set_option linter.unusedVariables false
set_option linter.unusedSimpArgs false
namespace Go.Proofs.Ytkmjldihlgchdaa.M
/-- What a walk has to know of the types: a struct's fields' places, the size of a slice's elements, integers. -/
structure Tab where
  flds : List (Nat × Nat × Nat)
  elts : List (Nat × Nat)
  ints : List (Nat × IntKind)
def look1 {α : Type} : List (Nat × α) → Nat → Option α
  | [], _ => none
  | (a, x) :: l, t => match Nat.beq a t with
    | true => some x
    | false => look1 l t
def look2 : List (Nat × Nat × Nat) → Nat → Nat → Option Nat
  | [], _, _ => none
  | (a, b, x) :: l, s, t => match Nat.beq a s, Nat.beq b t with
    | true, true => some x
    | _, _ => look2 l s t
class HasTab (P : Program) (T : outParam Tab) : Prop where
  f : ∀ r ∈ T.flds, ∃ ft, TF P r.1 r.2.1 r.2.2 ft
  e : ∀ r ∈ T.elts, ∃ el by_ z, TU P r.1 (.slice el) ∧ TI P el r.2 by_ z
  i : ∀ r ∈ T.ints, TU P r.1 (.int r.2)
theorem fcons {α : Type} {p : α → Prop} {a : α} {l : List α} (h : p a) (hl : ∀ x ∈ l, p x) : ∀ x ∈ a :: l, p x := fun x hx => by
  rcases List.mem_cons.1 hx with rfl | h'
  · exact h
  · exact hl x h'
theorem fnil {α : Type} {p : α → Prop} : ∀ x ∈ ([] : List α), p x := fun x hx => by cases hx
theorem look1_mem {α : Type} : ∀ {l : List (Nat × α)} {t : Nat} {x : α}, look1 l t = some x → (t, x) ∈ l
  | [], _, _, h => by cases h
  | (a, y) :: l, t, x, h => by
    unfold look1 at h
    split at h
    · rename_i hb
      obtain rfl := Nat.eq_of_beq_eq_true hb
      injection h with h
      subst h
      exact List.mem_cons_self
    · exact List.mem_cons_of_mem _ (look1_mem h)
theorem look2_mem : ∀ {l : List (Nat × Nat × Nat)} {s t x : Nat}, look2 l s t = some x → (s, t, x) ∈ l
  | [], _, _, _, h => by cases h
  | (a, b, y) :: l, s, t, x, h => by
    unfold look2 at h
    split at h
    · rename_i h1 h2
      obtain rfl := Nat.eq_of_beq_eq_true h1
      obtain rfl := Nat.eq_of_beq_eq_true h2
      injection h with h
      subst h
      exact List.mem_cons_self
    · exact List.mem_cons_of_mem _ (look2_mem h)
/-- Integers of a kind: the answer, and what it asks. -/
def arS : BinOp → IntKind → Int → Int → Option (Value × Option Prop)
  | .add, .i64, a, b => some (.int .i64 (a + b), some (-9223372036854775808 ≤ a + b ∧ a + b ≤ 9223372036854775807))
  | .sub, .i64, a, b => some (.int .i64 (a - b), some (-9223372036854775808 ≤ a - b ∧ a - b ≤ 9223372036854775807))
  | .mul, .i64, a, b => some (.int .i64 (a * b), some (-9223372036854775808 ≤ a * b ∧ a * b ≤ 9223372036854775807))
  | .add, .u64, a, b => some (.int .u64 (a + b), some (0 ≤ a + b ∧ a + b ≤ 18446744073709551615))
  | .sub, .u64, a, b => some (.int .u64 (a - b), some (0 ≤ a - b ∧ a - b ≤ 18446744073709551615))
  | .mul, .u64, a, b => some (.int .u64 (a * b), some (0 ≤ a * b ∧ a * b ≤ 18446744073709551615))
  | .quo, .i64, a, b => some (.int .i64 (a / b), some (0 ≤ a ∧ a ≤ 9223372036854775807 ∧ 1 ≤ b))
  | .quo, .u64, a, b => some (.int .u64 (a / b), some (0 ≤ a ∧ a ≤ 18446744073709551615 ∧ 1 ≤ b))
  | .rem, k, a, b => some (.int k (a % b), some (0 ≤ a ∧ 0 < b))
  | .eql, _, a, b => some (.bool (decide (a = b)), none)
  | .neq, _, a, b => some (.bool (!decide (a = b)), none)
  | .lss, _, a, b => some (.bool (decide (a < b)), none)
  | .leq, _, a, b => some (.bool (decide (a ≤ b)), none)
  | .gtr, _, a, b => some (.bool (decide (b < a)), none)
  | .geq, _, a, b => some (.bool (decide (b ≤ a)), none)
  | _, _, _, _ => none
def cvS : IntKind → Int → Option (Value × Option Prop)
  | .i64, n => some (.int .i64 n, some (-9223372036854775808 ≤ n ∧ n ≤ 9223372036854775807))
  | .u64, n => some (.int .u64 n, some (0 ≤ n ∧ n ≤ 18446744073709551615))
  | _, _ => none
def beqK : IntKind → IntKind → Bool
  | .i8, .i8 | .i16, .i16 | .i32, .i32 | .i64, .i64 | .u8, .u8 | .u16, .u16 | .u32, .u32 | .u64, .u64 => true
  | _, _ => false
theorem beqK_eq {a b : IntKind} (h : beqK a b = true) : a = b := by cases a <;> cases b <;> first | rfl | cases h
def val1 : Option Value → Option (Value × Option Prop)
  | some v => some (v, none)
  | none => none
def bopS (op : BinOp) : Option Value → Option Value → Option (Value × Option Prop)
  | some (.int k a), some (.int k' b) => match beqK k k' with
    | true => arS op k a b
    | false => none
  | _, _ => none
def lenS' : Option Value → Option Nat → Option (Value × Option Prop)
  | some (.slice p n c), some _ => some (.int .i64 n, none)
  | _, _ => none
def mfS (fn : Fn) : Option (List Value) → Option (List Value) → Option (Value × Option Prop)
  | some us, some vs => some (.func fn us.toArray vs.toArray, none)
  | _, _ => none
def extS : Option Value → Nat → Option (Value × Option Prop)
  | some (.tuple ⟨vs⟩), i => val1 vs[i]?
  | _, _ => none
def notS : Option Value → Option (Value × Option Prop)
  | some (.bool b) => some (.bool (!b), none)
  | _ => none
def convS : Option Value → Option IntKind → Option IntKind → Option (Value × Option Prop)
  | some (.int _ n), some _, some k' => cvS k' n
  | _, _, _ => none
def nilS : Option Value → Option (Value × Option Prop)
  | some (.pointer (some p)) => some (.pointer (some p), none)
  | some (.func (.func f) u c) => some (.func (.func f) u c, none)
  | _ => none
def faS : Option Value → Option Nat → Option (Value × Option Prop)
  | some (.pointer (some ⟨b, o, none⟩)), some off => some (.pointer (some ⟨b, o + off, none⟩), none)
  | _, _ => none
def iaS : Option Value → Option Value → Option Nat → Option (Value × Option Prop)
  | some (.slice (some ⟨b, o, none⟩) n c), some (.int _ q), some sz => some (.pointer (some ⟨b, o + q.toNat * sz, none⟩), some (0 ≤ q ∧ q < n))
  | _, _, _ => none
def mmS (mx : Bool) : Option Value → Option Value → Option (Value × Option Prop)
  | some (.int k a), some (.int k' b) => match beqK k k', mx with
    | true, true => some (.int k (max a b), none)
    | true, false => some (.int k (min a b), none)
    | _, _ => none
  | _, _ => none
/-- One operation. -/
def stepS (T : Tab) (e : Env) : Go.Op → Option (Value × Option Prop)
  | .move x => val1 (e.ev x)
  | .assign x => val1 (e.ev x)
  | .extract x i => extS (e.ev x) i
  | .unOp .not _ x => notS (e.ev x)
  | .binOp op _ x y _ => bopS op (e.ev x) (e.ev y)
  | .convert s d x => convS (e.ev x) (look1 T.ints s) (look1 T.ints d)
  | .nilCheck x => nilS (e.ev x)
  | .makeFunc fn ⟨xs⟩ ⟨ys⟩ => mfS fn (e.evs xs) (e.evs ys)
  | .fieldAddr s x f => faS (e.ev x) (look2 T.flds s f)
  | .indexAddr t x i => iaS (e.ev x) (e.ev i) (look1 T.elts t)
  | .call { callee := .builtin .len, args := ⟨[x]⟩, argTypes := ⟨[t]⟩, .. } => lenS' (e.ev x) (look1 T.elts t)
  | .call { callee := .builtin .min, args := ⟨[x, y]⟩, argTypes := ⟨[_, _]⟩, .. } => mmS false (e.ev x) (e.ev y)
  | .call { callee := .builtin .max, args := ⟨[x, y]⟩, argTypes := ⟨[_, _]⟩, .. } => mmS true (e.ev x) (e.ev y)
  | _ => none
def cOf : Option Prop → Prop
  | none => (0 : Nat) = 0
  | some c => c
section
variable {P : Program} {k : World} {N : Nat} {e : Env} {L : List HP} {d : Option Nat} {ty : Nat} {ps : String} {af : Array Edge} {g : Option (Nat × Bool)} {T : Tab}
theorem val1_eq {x : Option Value} {v : Value} {c : Option Prop} (h : val1 x = some (v, c)) : x = some v := by
  cases x with
  | none => cases h
  | some u => simp [val1] at h; rw [h.1]
theorem ar_ok {op : BinOp} {kk : IntKind} {a b : Int} {v : Value} {c : Option Prop} (h : arS op kk a b = some (v, c)) (hc : cOf c) {t t' : Nat} {x y : Operand} (hx : e.ev x = some (.int kk a)) (hy : e.ev y = some (.int kk b)) :
    OV P k N e L ⟨d, .binOp op t x y t', ty, ps, af, g⟩ v := by
  unfold arS at h
  split at h <;> simp only [Option.some.injEq, Prod.mk.injEq, reduceCtorEq] at h <;> obtain ⟨rfl, rfl⟩ := h
  · exact OV.addI hx hy hc
  · exact OV.subI hx hy hc
  · exact OV.mulI hx hy hc
  · exact OV.addU hx hy hc
  · exact OV.subU hx hy hc
  · exact OV.mulU hx hy hc
  · exact OV.quoI hx hy hc
  · exact OV.quoU hx hy hc
  · exact OV.remN hx hy hc
  all_goals exact OV.bin hx hy (by simp [binV])
theorem cv_ok [hT : HasTab P T] {s t : Nat} {kk k' : IntKind} {n : Int} {v : Value} {c : Option Prop} (hs : look1 T.ints s = some kk) (ht : look1 T.ints t = some k') (h : cvS k' n = some (v, c)) (hc : cOf c) {x : Operand} {k0 : IntKind} (hx : e.ev x = some (.int k0 n)) :
    OV P k N e L ⟨d, .convert s t x, ty, ps, af, g⟩ v := by
  have i1 : TU P s (.int kk) := hT.i _ (look1_mem hs)
  have i2 : TU P t (.int k') := hT.i _ (look1_mem ht)
  unfold cvS at h
  split at h <;> simp only [Option.some.injEq, Prod.mk.injEq, reduceCtorEq] at h <;> obtain ⟨rfl, rfl⟩ := h
  · exact OV.convUI hx hc
  · exact OV.convIU hx hc
theorem OV.step [hT : HasTab P T] {o : Go.Op} {v : Value} {c : Option Prop} (h : stepS T e o = some (v, c)) (hc : cOf c) : OV P k N e L ⟨d, o, ty, ps, af, g⟩ v := by
  unfold stepS at h
  split at h
  · exact OV.move (val1_eq h)
  · exact OV.assign (val1_eq h)
  · unfold extS at h
    split at h
    · rename_i hx
      exact OV.extract hx (val1_eq h)
    · cases h
  · unfold notS at h
    split at h
    · rename_i hx
      simp only [Option.some.injEq, Prod.mk.injEq] at h
      obtain ⟨rfl, rfl⟩ := h
      exact OV.not hx
    · cases h
  · unfold bopS at h
    split at h
    · rename_i hx hy
      split at h
      · rename_i hb
        obtain rfl := beqK_eq hb
        exact ar_ok h hc hx hy
      · cases h
    · cases h
  · unfold convS at h
    split at h
    · rename_i hx h1 h2
      exact cv_ok h1 h2 h hc hx
    · cases h
  · unfold nilS at h
    split at h
    · rename_i hx
      simp only [Option.some.injEq, Prod.mk.injEq] at h
      obtain ⟨rfl, rfl⟩ := h
      exact OV.nilCheck hx
    · rename_i hx
      simp only [Option.some.injEq, Prod.mk.injEq] at h
      obtain ⟨rfl, rfl⟩ := h
      exact OV.nilCheckF hx
    · cases h
  · unfold mfS at h
    split at h
    · rename_i hx hy
      simp only [Option.some.injEq, Prod.mk.injEq] at h
      obtain ⟨rfl, rfl⟩ := h
      exact OV.makeFunc hx hy
    · cases h
  · unfold faS at h
    split at h
    · rename_i hx hl
      simp only [Option.some.injEq, Prod.mk.injEq] at h
      obtain ⟨rfl, rfl⟩ := h
      obtain ⟨ft, i1⟩ := hT.f _ (look2_mem hl)
      exact OV.fieldAddr hx
    · cases h
  · unfold iaS at h
    split at h
    · rename_i hx hi hl
      simp only [Option.some.injEq, Prod.mk.injEq] at h
      obtain ⟨rfl, rfl⟩ := h
      obtain ⟨el, by_, z, i1, i2⟩ := hT.e _ (look1_mem hl)
      exact OV.indexAddr hx hi hc
    · cases h
  · unfold lenS' at h
    split at h
    · rename_i hx hl
      simp only [Option.some.injEq, Prod.mk.injEq] at h
      obtain ⟨rfl, rfl⟩ := h
      obtain ⟨el, by_, z, i1, i2⟩ := hT.e _ (look1_mem hl)
      exact OV.lenS hx
    · cases h
  · unfold mmS at h
    split at h
    · rename_i hx hy
      split at h <;> simp only [Option.some.injEq, Prod.mk.injEq, reduceCtorEq] at h
      · rename_i h1 h2; cases h2
      · rename_i h1 h2
        obtain ⟨rfl, rfl⟩ := h
        obtain rfl := beqK_eq h1
        exact OV.minI hx hy
    · cases h
  · unfold mmS at h
    split at h
    · rename_i hx hy
      split at h <;> simp only [Option.some.injEq, Prod.mk.injEq, reduceCtorEq] at h
      · rename_i h1 h2
        obtain ⟨rfl, rfl⟩ := h
        obtain rfl := beqK_eq h1
        exact OV.maxI hx hy
      · rename_i h1 h2; cases h2
    · cases h
  · cases h
def stepC (T : Tab) (e : Env) (o : Go.Op) : Option (Value × Prop) := match stepS T e o with
  | none => none
  | some (v, c) => match c with
    | none => some (v, (0 : Nat) = 0)
    | some c => some (v, c)
theorem OV.one [hT : HasTab P T] {o : Go.Op} {v : Value} {C : Prop} (h : stepC T e o = some (v, C)) (hc : C) : OV P k N e L ⟨d, o, ty, ps, af, g⟩ v := by
  unfold stepC at h
  split at h
  · cases h
  · rename_i v' c hs
    split at h
    · simp only [Option.some.injEq, Prod.mk.injEq] at h
      obtain ⟨rfl, rfl⟩ := h
      exact OV.step hs rfl
    · simp only [Option.some.injEq, Prod.mk.injEq] at h
      obtain ⟨rfl, rfl⟩ := h
      exact OV.step hs hc
/-- A run of them: what is known behind it, what is left, what is asked. -/
def runS (T : Tab) (N : Nat) : Env → List Oper → Prop → Env × List Oper × Prop
  | e, [], C => (e, [], C)
  | e, o :: r, C => match o.guard with
    | some _ => (e, o :: r, C)
    | none => match o.dst with
      | none => (e, o :: r, C)
      | some t => match Nat.blt t N with
        | false => (e, o :: r, C)
        | true => match stepS T e o.op with
          | none => (e, o :: r, C)
          | some (v, c) => match c with
            | none => runS T N ((t, v) :: e) r C
            | some c => runS T N ((t, v) :: e) r (c ∧ C)
section
variable {Q : Exit → Act → World → Prop} {ops : Array Oper}
theorem WL.runs [hT : HasTab P T] : ∀ (r : List Oper) (e : Env) (C : Prop) {e' : Env} {r' : List Oper} {C' : Prop}, runS T N e r C = (e', r', C') → C' → (C → WL P k N ops Q r' e' L → WL P k N ops Q r e L) ∧ C
  | [], e, C, e', r', C', h, hC => by
    simp only [runS, Prod.mk.injEq] at h
    obtain ⟨rfl, rfl, rfl⟩ := h
    exact ⟨fun _ h => h, hC⟩
  | o :: r, e, C, e', r', C', h, hC => by
    have stop : (e, o :: r, C) = (e', r', C') → (C → WL P k N ops Q r' e' L → WL P k N ops Q (o :: r) e L) ∧ C := fun h => by
      simp only [Prod.mk.injEq] at h
      obtain ⟨rfl, rfl, rfl⟩ := h
      exact ⟨fun _ h => h, hC⟩
    unfold runS at h
    split at h
    · exact stop h
    · rename_i hg
      split at h
      · exact stop h
      · rename_i t hd
        split at h
        · exact stop h
        · rename_i ht
          split at h
          · exact stop h
          · rename_i v c hs
            obtain ⟨od, oo, oty, ops', oaf, og⟩ := o
            split at h
            · obtain ⟨i1, i2⟩ := WL.runs r _ _ h hC
              exact ⟨fun hc hw => WL.val hg hd ht (OV.step hs rfl) (i1 hc hw), i2⟩
            · obtain ⟨i1, i2⟩ := WL.runs r _ _ h hC
              exact ⟨fun hc hw => WL.val hg hd ht (OV.step hs i2.1) (i1 i2 hw), i2.2⟩
theorem WL.run [hT : HasTab P T] {r r' : List Oper} {e' : Env} {C : Prop} (hr : runS T N e r ((0 : Nat) = 0) = (e', r', C)) (hp : Nat.blt r'.length r.length = true) (hC : C)
    (h : WL P k N ops Q r' e' L) : WL P k N ops Q r e L := by
  obtain ⟨i1, i2⟩ := WL.runs (P := P) (k := k) (ops := ops) (Q := Q) (L := L) r _ _ hr hC
  exact i1 i2 h
theorem WD.runs [hT : HasTab P T] : ∀ (r : List Oper) (e : Env) (C : Prop) {e' : Env} {r' : List Oper} {C' : Prop}, runS T N e r C = (e', r', C') → C' → (C → WD P k N ops Q r' e' L → WD P k N ops Q r e L) ∧ C
  | [], e, C, e', r', C', h, hC => by
    simp only [runS, Prod.mk.injEq] at h
    obtain ⟨rfl, rfl, rfl⟩ := h
    exact ⟨fun _ h => h, hC⟩
  | o :: r, e, C, e', r', C', h, hC => by
    have stop : (e, o :: r, C) = (e', r', C') → (C → WD P k N ops Q r' e' L → WD P k N ops Q (o :: r) e L) ∧ C := fun h => by
      simp only [Prod.mk.injEq] at h
      obtain ⟨rfl, rfl, rfl⟩ := h
      exact ⟨fun _ h => h, hC⟩
    unfold runS at h
    split at h
    · exact stop h
    · rename_i hg
      split at h
      · exact stop h
      · rename_i t hd
        split at h
        · exact stop h
        · rename_i ht
          split at h
          · exact stop h
          · rename_i v c hs
            obtain ⟨od, oo, oty, ops', oaf, og⟩ := o
            split at h
            · obtain ⟨i1, i2⟩ := WD.runs r _ _ h hC
              exact ⟨fun hc hw => WD.val hg hd ht (OV.step hs rfl) (i1 hc hw), i2⟩
            · obtain ⟨i1, i2⟩ := WD.runs r _ _ h hC
              exact ⟨fun hc hw => WD.val hg hd ht (OV.step hs i2.1) (i1 i2 hw), i2.2⟩
theorem WD.run [hT : HasTab P T] {r r' : List Oper} {e' : Env} {C : Prop} (hr : runS T N e r ((0 : Nat) = 0) = (e', r', C)) (hp : Nat.blt r'.length r.length = true) (hC : C)
    (h : WD P k N ops Q r' e' L) : WD P k N ops Q r e L := by
  obtain ⟨i1, i2⟩ := WD.runs (P := P) (k := k) (ops := ops) (Q := Q) (L := L) r _ _ hr hC
  exact i1 i2 h
/-- Some operations of a drawn region, taken first, one by one. -/
def takeS (T : Tab) (N : Nat) (l : List Oper) : Env → Array Bool → List Nat → Prop → Option (Env × Array Bool × Prop)
  | e, ls, [], C => some (e, ls, C)
  | e, ls, i :: is, C => match nth l i with
    | none => none
    | some o => match o.guard with
      | some _ => none
      | none => match o.dst with
        | none => none
        | some t => match Nat.blt t N with
          | false => none
          | true => match stepS T e o.op with
            | none => none
            | some (v, c) => match c with
              | none => takeS T N l ((t, v) :: e) (ls.setIfInBounds i true) is C
              | some c => takeS T N l ((t, v) :: e) (ls.setIfInBounds i true) is (c ∧ C)
def chkS (l : Array Oper) (need : Nat → Bool) : Array Bool → List Nat → Bool
  | _, [] => true
  | ls, i :: is => canTakeP l need ls i && chkS l need (ls.setIfInBounds i true) is
variable {l : List Oper} {Ls : List HP} {need : Nat → Bool}
theorem WN.runs [hT : HasTab P T] (hn : Region.noSelect l.toArray = true) : ∀ (is : List Nat) (f : Nat) (e : Env) (ls : Array Bool) (C : Prop) {e' : Env} {ls' : Array Bool} {C' : Prop}, takeS T N l e ls is C = some (e', ls', C') → chkS l.toArray need ls is = true → C' →
    (C → WN P k N l.toArray Q Ls need f ls' e' L → WN P k N l.toArray Q Ls need (f + is.length) ls e L) ∧ C
  | [], f, e, ls, C, e', ls', C', h, hk, hC => by
    simp only [takeS, Option.some.injEq, Prod.mk.injEq] at h
    obtain ⟨rfl, rfl, rfl⟩ := h
    exact ⟨fun _ h => h, hC⟩
  | i :: is, f, e, ls, C, e', ls', C', h, hk, hC => by
    unfold takeS at h
    simp only [chkS, Bool.and_eq_true] at hk
    split at h
    · cases h
    · rename_i o hi
      split at h
      · cases h
      · rename_i hg
        split at h
        · cases h
        · rename_i t hd
          split at h
          · cases h
          · rename_i ht
            split at h
            · cases h
            · rename_i v c hs
              obtain ⟨od, oo, oty, ops', oaf, og⟩ := o
              split at h
              · obtain ⟨i1, i2⟩ := WN.runs hn is f _ _ _ h hk.2 hC
                exact ⟨fun hc hw => WN.tkP i hi hd ht hn hk.1 hg (fun _ => OV.step hs rfl) (i1 hc hw), i2⟩
              · obtain ⟨i1, i2⟩ := WN.runs hn is f _ _ _ h hk.2 hC
                exact ⟨fun hc hw => WN.tkP i hi hd ht hn hk.1 hg (fun _ => OV.step hs i2.1) (i1 i2 hw), i2.2⟩
theorem WN.run [hT : HasTab P T] (is : List Nat) (f : Nat) {F : Nat} {ls ls' : Array Bool} {e' : Env} {C : Prop} (hF : Nat.beq F (f + is.length) = true) (hn : Region.noSelect l.toArray = true) (h : takeS T N l e ls is ((0 : Nat) = 0) = some (e', ls', C)) (hk : chkS l.toArray need ls is = true) (hC : C)
    (hw : WN P k N l.toArray Q Ls need f ls' e' L) : WN P k N l.toArray Q Ls need F ls e L := by
  obtain rfl := Nat.eq_of_beq_eq_true hF
  obtain ⟨i1, i2⟩ := WN.runs (P := P) (k := k) (Q := Q) (L := L) (Ls := Ls) hn is f _ _ _ h hk hC
  exact i1 i2 hw
end
end
end Go.Proofs.Ytkmjldihlgchdaa.M
