/- A scope in which the run jumps forward to one label, at most once. No condition. -/
import Derived.Test.YtnoemopaplopdaaBase
import Derived.ScopeJumps
namespace Go.Proofs.Ytnoemopaplopdaa
open Go.RowKit
theorem wp_scope_forward {P : Program} {Q : Exit → Act → World → Prop} {a : Act} {w : World} {c rest : Code} (l : Nat) (hf : findLabel c l = some rest)
    (h : c.wp P (Exit.jump l (fun a w => rest.wp P (Exit.noGoto Q) a w) Q) a w) : (Code.scope c).wp P Q a w :=
  wp_scope_jumps l (fun a w => rest.wp P (Exit.noGoto Q) a w) (fun _ _ => 0) hf h fun a w hJ => Code.wp_mono (fun e a w he => by
    cases e <;> first | exact he | exact he.elim) hJ
end Go.Proofs.Ytnoemopaplopdaa
