/- More joins. -/
import Derived.Test.YtkmjldihlgchdaaL16
set_option linter.unusedVariables false
set_option linter.unusedSimpArgs false
namespace Go.Proofs.Ytkmjldihlgchdaa.M
section
variable {P : Program} {k : World} {N : Nat} {Q : Exit → Act → World → Prop} {next : Env → List HP → Prop} {e : Env} {L : List HP} {d : Option Nat} {ty : Nat} {ps : String} {af : Array Edge} {g : Option (Nat × Bool)} {t : Nat} {c : Code}
theorem then_join {X : Type} {d : Code} {p : X → Prop} {ks : Env} {zs : X → Env} {Lx : X → List HP} (next : ∀ x, p x → WC P k N d Q (zs x ++ ks) (Lx x)) (x : Exit) (a' : Act) (w' : World) :
    Exit.then (fun a' w' => ∃ x, p x ∧ Agr N a' (zs x ++ ks) ∧ Sat k w' (Lx x)) Q x a' w' → Exit.then (d.wp P Q) Q x a' w' := by
  intro hq
  cases x with
  | normal =>
    obtain ⟨x, hp, ha', hs'⟩ := hq
    exact next x hp a' w' ha' hs'
  | _ => exact hq
/-- A join behind two steps. -/
theorem WC.cutK2 {X : Type} {c2 d : Code} (p : X → Prop) (ks : Env) (zs : X → Env) (A0 : List HP) (Lx : X → List HP) {R : List HP} (hk : Env.Sub ks e) (hL : Picks L A0 R)
    (h : WC P k N c (Exit.then (c2.wp P (Exit.then (fun a' w' => ∃ x, p x ∧ Agr N a' (zs x ++ ks) ∧ Sat k w' (Lx x ++ R)) Q)) (Exit.then (fun a' w' => ∃ x, p x ∧ Agr N a' (zs x ++ ks) ∧ Sat k w' (Lx x ++ R)) Q)) e L)
    (next : ∀ x, p x → WC P k N d Q (zs x ++ ks) (Lx x ++ R)) : WC P k N c (Exit.then (c2.wp P (Exit.then (d.wp P Q) Q)) (Exit.then (d.wp P Q) Q)) e L := by
  intro a w ha hs
  refine wp_mono (h a w ha hs) ?_
  intro x a' w' hq
  cases x with
  | normal => exact wp_mono (show c2.wp P _ a' w' from hq) (then_join next)
  | exit i => exact then_join next (.exit i) a' w' hq
  | goto l => exact then_join next (.goto l) a' w' hq
  | ret => exact then_join next .ret a' w' hq
  | panic c => exact then_join next (.panic c) a' w' hq
  | outgrown => exact then_join next .outgrown a' w' hq
end
end Go.Proofs.Ytkmjldihlgchdaa.M
