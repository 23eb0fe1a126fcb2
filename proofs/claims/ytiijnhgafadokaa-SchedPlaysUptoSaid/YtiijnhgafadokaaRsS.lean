/-
  The document's scheduler: Sent, whatever the row.
-/
import Derived.Test.YtiijnhgafadokaaRsGp
import Derived.Test.YtiijnhgafadokaaRsGn
import Derived.Test.YtiijnhgafadokaaRsGz
namespace Go.Proofs.Ytiijnhgafadokaa
open Go.RowKit
set_option linter.unusedVariables false
variable {B : Nat}

theorem sentR_any (w : World) (y : Nat) (R : RSch) (h : RSIs B w y R) (id c now : Int) (vc : Value) (car : List (Int × Int)) (hR : Rd w vc 2 car.length (flat car)) (hcl : car.length ≤ 2000000) (hsep : 0 < car.length → ∀ g o n c', vc = .slice (some ⟨g, o, .none⟩) n c' → ¬ MineR B w g) (hnil : ∀ n c', vc = .slice .none n c' → c' = 0) (hlen : underR R id < 100000) :
    Calls Try.prog 55 #[.pointer (some ⟨y, 0, .none⟩), .int .i64 id, .int .i64 c, .int .i64 now, vc] w (SentRTo B w y R id c now car) := by
  by_cases h0 : 0 < car.length
  · exact sentR_pos w y R h id c now vc car hR hcl (hsep h0) hlen h0
  · obtain rfl : car = [] := List.length_eq_zero_iff.1 (by omega)
    obtain ⟨-, A, cp, rfl, -, -⟩ := hR
    cases A with
    | none =>
      obtain rfl := hnil _ _ rfl
      exact sentR_none w y R h id c now hlen
    | some ad => exact sentR_zero w y R h id c now ad cp hlen
end Go.Proofs.Ytiijnhgafadokaa
