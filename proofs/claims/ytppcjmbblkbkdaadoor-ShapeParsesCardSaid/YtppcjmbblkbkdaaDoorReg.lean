/- What is kept where memory grows. Conditions as typed. -/
import Derived.Test.YtppcjmbblkbkdaaDoorBuild
import Derived.BigQuiet
import Derived.Lib.QuietBelow
namespace Go.Proofs.YtppcjmbblkbkdaaDoor
open Go.RowKit Go.Sort

theorem Sents.regrown {w : World} {A : Nat → Addr} (h : Sents w A) (p : Regrown) : Sents (grow (redrawn w p.d) p.os) A := h.kept (below_regrown w p.d p.os) (Nat.le_refl _)
theorem Chain.regrown {w : World} {b : Addr} {l : List (Bool × Int)} {v : Value} (h : Chain w b l v) (p : Regrown) : Chain (grow (redrawn w p.d) p.os) b l v := h.kept (below_regrown w p.d p.os) (Nat.le_refl _)
theorem Bottom.regrown {w : World} {A : Nat → Addr} {b : Addr} {K : Nat} (h : Bottom w A b K) (p : Regrown) : Bottom (grow (redrawn w p.d) p.os) A b K := h.kept (below_regrown w p.d p.os) (Nat.le_refl _)
theorem same_regrown {P : Program} {f : FuncId} {args : Array Value} {w : World} {v : Value} (p : Regrown)
    (h : Calls P f args (grow (redrawn w p.d) p.os) fun e w' => e = .returned v ∧ grow (redrawn w p.d) p.os = w') : Calls P f args (grow (redrawn w p.d) p.os) fun e w'' => e = .returned v ∧ ∃ p : Regrown, w'' = grow (redrawn w p.d) p.os :=
  h.mono fun _ _ ⟨he, hw⟩ => ⟨he, p, hw.symm⟩

end Go.Proofs.YtppcjmbblkbkdaaDoor
