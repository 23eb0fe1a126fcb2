/-
  The document's stream: rol, word, Quarter (the walks).
-/
import Derived.Test.YtebmbapaedlmiaaDoorSAeQ
import Derived.Test.YtebmbapaedlmiaaDoorSCalm3
import Derived.Deep.QuietTactic
import Derived.BigQuiet
namespace Go.Proofs.YtebmbapaedlmiaaDoor
open Go.RowKit Ae
set_option linter.unusedVariables false

set_option maxHeartbeats 800000 in
set_option maxRecDepth 100000 in
theorem rword_any (g o n c b0 b1 b2 b3 : Nat) (w : World) (hn : 4 ≤ n) (hc : n ≤ c) (h0 : b0 < 256) (h1 : b1 < 256) (h2 : b2 < 256) (h3 : b3 < 256)
    (c0 : w.cell? ⟨g, o, none⟩ = some (.int .u8 (b0 : Int))) (c1 : w.cell? ⟨g, o + 1, none⟩ = some (.int .u8 (b1 : Int))) (c2 : w.cell? ⟨g, o + 2, none⟩ = some (.int .u8 (b2 : Int))) (c3 : w.cell? ⟨g, o + 3, none⟩ = some (.int .u8 (b3 : Int))) :
    Calls Tryd.prog 26 #[.slice (some ⟨g, o, none⟩) n c] w (Gives w (.int .u32 ((b0 + 256 * b1 + 65536 * b2 + 16777216 * b3 : Nat) : Int))) := by
  have HO := Lib.hid (word_or h0 h1 h2 h3)
  have i0 : (0 : Int) < (n : Int) := by omega
  have i1 : (1 : Int) < (n : Int) := by omega
  have i2 : (2 : Int) < (n : Int) := by omega
  have i3 : (3 : Int) < (n : Int) := by omega
  go_enter Tryd.func26, Tryd.ntmps26
  go_wp2_with fail
  go_quiet (fail)
  go_wp2_with fail
  go_ret
  exact ⟨by rw [← HO.out]; rfl, (Chg.refl _ _).drewN _⟩

set_option maxHeartbeats 800000 in
theorem rol16 (x : Nat) (hx : x < 4294967296) (w : World) : Calls Tryd.prog 40 #[.int .u32 (x : Int), .int .i64 16] w (Gives w (.int .u32 ((rl x 16 : Nat) : Int))) := by
  have HB := Lib.hid (rl_bits16 hx)
  go_enter Tryd.func40, Tryd.ntmps40
  go_wp2_with fail
  go_quiet (fail)
  go_wp2_with fail
  go_ret
  exact ⟨congrArg (fun n => Ending.returned (.int .u32 n)) HB.out, (Chg.refl _ _).drewN _⟩
set_option maxHeartbeats 800000 in
theorem rol12 (x : Nat) (hx : x < 4294967296) (w : World) : Calls Tryd.prog 40 #[.int .u32 (x : Int), .int .i64 12] w (Gives w (.int .u32 ((rl x 12 : Nat) : Int))) := by
  have HB := Lib.hid (rl_bits12 hx)
  go_enter Tryd.func40, Tryd.ntmps40
  go_wp2_with fail
  go_quiet (fail)
  go_wp2_with fail
  go_ret
  exact ⟨congrArg (fun n => Ending.returned (.int .u32 n)) HB.out, (Chg.refl _ _).drewN _⟩
set_option maxHeartbeats 800000 in
theorem rol8 (x : Nat) (hx : x < 4294967296) (w : World) : Calls Tryd.prog 40 #[.int .u32 (x : Int), .int .i64 8] w (Gives w (.int .u32 ((rl x 8 : Nat) : Int))) := by
  have HB := Lib.hid (rl_bits8 hx)
  go_enter Tryd.func40, Tryd.ntmps40
  go_wp2_with fail
  go_quiet (fail)
  go_wp2_with fail
  go_ret
  exact ⟨congrArg (fun n => Ending.returned (.int .u32 n)) HB.out, (Chg.refl _ _).drewN _⟩
set_option maxHeartbeats 800000 in
theorem rol7 (x : Nat) (hx : x < 4294967296) (w : World) : Calls Tryd.prog 40 #[.int .u32 (x : Int), .int .i64 7] w (Gives w (.int .u32 ((rl x 7 : Nat) : Int))) := by
  have HB := Lib.hid (rl_bits7 hx)
  go_enter Tryd.func40, Tryd.ntmps40
  go_wp2_with fail
  go_quiet (fail)
  go_wp2_with fail
  go_ret
  exact ⟨congrArg (fun n => Ending.returned (.int .u32 n)) HB.out, (Chg.refl _ _).drewN _⟩
end Go.Proofs.YtebmbapaedlmiaaDoor
