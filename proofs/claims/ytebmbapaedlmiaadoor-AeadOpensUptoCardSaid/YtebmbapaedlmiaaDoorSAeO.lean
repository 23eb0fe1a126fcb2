/-
  Package chacha: word, RotateLeft32, Quarter (the walks).
-/
import Derived.Test.YtebmbapaedlmiaaDoorSAeC
import Derived.Test.YtebmbapaedlmiaaDoorSCalm
import Derived.Deep.QuietTactic
import Derived.BigQuiet
namespace Go.Proofs.YtebmbapaedlmiaaDoor
open Go.RowKit Ae
set_option linter.unusedVariables false

theorem wrap32 {a : Nat} (h : a < 4294967296) : IntKind.u32.wrap (a : Int) = (a : Int) := by rw [IntKind.wrap_u32']; omega
theorem wrap32m (a : Nat) : IntKind.u32.wrap (a : Int) = ((m32 a : Nat) : Int) := by rw [IntKind.wrap_u32']; unfold m32; omega
theorem m32_lt (a : Nat) : m32 a < 4294967296 := Nat.mod_lt _ (by decide)
theorem or32_lt {a b : Nat} (ha : a < 4294967296) (hb : b < 4294967296) : a ||| b < 4294967296 := Nat.or_lt_two_pow (n := 32) ha hb
theorem xor32_lt {a b : Nat} (ha : a < 4294967296) (hb : b < 4294967296) : a ^^^ b < 4294967296 := Nat.xor_lt_two_pow (n := 32) ha hb
theorem rl_lt {x : Nat} (hx : x < 4294967296) (n : Nat) : rl x n < 4294967296 := or32_lt (m32_lt _) (Nat.lt_of_le_of_lt (Nat.div_le_self _ _) hx)
theorem word_or {b0 b1 b2 b3 : Nat} (h0 : b0 < 256) (h1 : b1 < 256) (h2 : b2 < 256) (h3 : b3 < 256) :
    bits .or .u32 (bits .or .u32 (bits .or .u32 (b0 : Int) ((b1 : Int) * 256)) ((b2 : Int) * 65536)) ((b3 : Int) * 16777216) = ((b0 + 256 * b1 + 65536 * b2 + 16777216 * b3 : Nat) : Int) := by
  have e1 : ((b1 : Int) * 256) = ((b1 * 256 : Nat) : Int) := by simp
  have e2 : ((b2 : Int) * 65536) = ((b2 * 65536 : Nat) : Int) := by simp
  have e3 : ((b3 : Int) * 16777216) = ((b3 * 16777216 : Nat) : Int) := by simp
  have j1 : b0 ||| b1 * 256 = b0 + b1 * 256 := by rw [Nat.or_comm, nat_join 8 _ _ (Nat.mul_mod_left _ _) (by omega), Nat.add_comm]
  have j2 : (b0 + b1 * 256) ||| b2 * 65536 = b0 + b1 * 256 + b2 * 65536 := by rw [Nat.or_comm, nat_join 16 _ _ (Nat.mul_mod_left _ _) (by omega), Nat.add_comm]
  have j3 : (b0 + b1 * 256 + b2 * 65536) ||| b3 * 16777216 = b0 + b1 * 256 + b2 * 65536 + b3 * 16777216 := by rw [Nat.or_comm, nat_join 24 _ _ (Nat.mul_mod_left _ _) (by omega), Nat.add_comm]
  rw [e1, u32_or_nat b0 (b1 * 256) (by omega) (by omega), j1, e2, u32_or_nat _ _ (by omega) (by omega), j2, e3, u32_or_nat _ _ (by omega) (by omega), j3]
  congr 1
  omega

set_option maxHeartbeats 800000 in
set_option maxRecDepth 100000 in
theorem word_any (g o n c b0 b1 b2 b3 : Nat) (w : World) (hn : 4 ≤ n) (hc : n ≤ c) (h0 : b0 < 256) (h1 : b1 < 256) (h2 : b2 < 256) (h3 : b3 < 256)
    (c0 : w.cell? ⟨g, o, none⟩ = some (.int .u8 (b0 : Int))) (c1 : w.cell? ⟨g, o + 1, none⟩ = some (.int .u8 (b1 : Int))) (c2 : w.cell? ⟨g, o + 2, none⟩ = some (.int .u8 (b2 : Int))) (c3 : w.cell? ⟨g, o + 3, none⟩ = some (.int .u8 (b3 : Int))) :
    Calls Tryd.prog 28 #[.slice (some ⟨g, o, none⟩) n c] w (Gives w (.int .u32 ((b0 + 256 * b1 + 65536 * b2 + 16777216 * b3 : Nat) : Int))) := by
  have HO := Lib.hid (word_or h0 h1 h2 h3)
  have i0 : (0 : Int) < (n : Int) := by omega
  have i1 : (1 : Int) < (n : Int) := by omega
  have i2 : (2 : Int) < (n : Int) := by omega
  have i3 : (3 : Int) < (n : Int) := by omega
  go_enter Tryd.func28, Tryd.ntmps28
  go_wp2_with fail
  go_quiet (fail)
  go_wp2_with fail
  go_ret
  exact ⟨by rw [← HO.out]; rfl, (Chg.refl _ _).drewN _⟩

theorem rl_bits16 {x : Nat} (hx : x < 4294967296) : bits .or .u32 ((x : Int) * 65536 % 4294967296) ((x : Int) / 65536) = ((rl x 16 : Nat) : Int) := by
  have e1 : (x : Int) * 65536 % 4294967296 = ((m32 (x * 2 ^ 16) : Nat) : Int) := by unfold m32; simp
  have e2 : (x : Int) / 65536 = ((x / 2 ^ (32 - 16) : Nat) : Int) := by simp
  rw [e1, e2, u32_or_nat _ _ (m32_lt _) (Nat.lt_of_le_of_lt (Nat.div_le_self _ _) hx)]
  rfl
set_option maxHeartbeats 800000 in
theorem rot16 (x : Nat) (hx : x < 4294967296) (w : World) : Calls Tryd.prog 41 #[.int .u32 (x : Int), .int .i64 16] w fun e w' => e = .returned (.int .u32 ((rl x 16 : Nat) : Int)) ∧ w = w' := by
  have e1 : bits .and .u64 16 31 = 16 := by decide
  go_enter Tryd.func41, Tryd.ntmps41
  go_wp2_with fail
  go_ret
  exact ⟨congrArg (fun n => Ending.returned (.int .u32 n)) (rl_bits16 hx), rfl⟩

theorem rl_bits12 {x : Nat} (hx : x < 4294967296) : bits .or .u32 ((x : Int) * 4096 % 4294967296) ((x : Int) / 1048576) = ((rl x 12 : Nat) : Int) := by
  have e1 : (x : Int) * 4096 % 4294967296 = ((m32 (x * 2 ^ 12) : Nat) : Int) := by unfold m32; simp
  have e2 : (x : Int) / 1048576 = ((x / 2 ^ (32 - 12) : Nat) : Int) := by simp
  rw [e1, e2, u32_or_nat _ _ (m32_lt _) (Nat.lt_of_le_of_lt (Nat.div_le_self _ _) hx)]
  rfl
set_option maxHeartbeats 800000 in
theorem rot12 (x : Nat) (hx : x < 4294967296) (w : World) : Calls Tryd.prog 41 #[.int .u32 (x : Int), .int .i64 12] w fun e w' => e = .returned (.int .u32 ((rl x 12 : Nat) : Int)) ∧ w = w' := by
  have e1 : bits .and .u64 12 31 = 12 := by decide
  go_enter Tryd.func41, Tryd.ntmps41
  go_wp2_with fail
  go_ret
  exact ⟨congrArg (fun n => Ending.returned (.int .u32 n)) (rl_bits12 hx), rfl⟩

theorem rl_bits8 {x : Nat} (hx : x < 4294967296) : bits .or .u32 ((x : Int) * 256 % 4294967296) ((x : Int) / 16777216) = ((rl x 8 : Nat) : Int) := by
  have e1 : (x : Int) * 256 % 4294967296 = ((m32 (x * 2 ^ 8) : Nat) : Int) := by unfold m32; simp
  have e2 : (x : Int) / 16777216 = ((x / 2 ^ (32 - 8) : Nat) : Int) := by simp
  rw [e1, e2, u32_or_nat _ _ (m32_lt _) (Nat.lt_of_le_of_lt (Nat.div_le_self _ _) hx)]
  rfl
set_option maxHeartbeats 800000 in
theorem rot8 (x : Nat) (hx : x < 4294967296) (w : World) : Calls Tryd.prog 41 #[.int .u32 (x : Int), .int .i64 8] w fun e w' => e = .returned (.int .u32 ((rl x 8 : Nat) : Int)) ∧ w = w' := by
  have e1 : bits .and .u64 8 31 = 8 := by decide
  go_enter Tryd.func41, Tryd.ntmps41
  go_wp2_with fail
  go_ret
  exact ⟨congrArg (fun n => Ending.returned (.int .u32 n)) (rl_bits8 hx), rfl⟩

theorem rl_bits7 {x : Nat} (hx : x < 4294967296) : bits .or .u32 ((x : Int) * 128 % 4294967296) ((x : Int) / 33554432) = ((rl x 7 : Nat) : Int) := by
  have e1 : (x : Int) * 128 % 4294967296 = ((m32 (x * 2 ^ 7) : Nat) : Int) := by unfold m32; simp
  have e2 : (x : Int) / 33554432 = ((x / 2 ^ (32 - 7) : Nat) : Int) := by simp
  rw [e1, e2, u32_or_nat _ _ (m32_lt _) (Nat.lt_of_le_of_lt (Nat.div_le_self _ _) hx)]
  rfl
set_option maxHeartbeats 800000 in
theorem rot7 (x : Nat) (hx : x < 4294967296) (w : World) : Calls Tryd.prog 41 #[.int .u32 (x : Int), .int .i64 7] w fun e w' => e = .returned (.int .u32 ((rl x 7 : Nat) : Int)) ∧ w = w' := by
  have e1 : bits .and .u64 7 31 = 7 := by decide
  go_enter Tryd.func41, Tryd.ntmps41
  go_wp2_with fail
  go_ret
  exact ⟨congrArg (fun n => Ending.returned (.int .u32 n)) (rl_bits7 hx), rfl⟩

theorem rot_nm16 (x y : Nat) (hx : x < 4294967296) (hy : y = rl x 16) (w : World) : Calls Tryd.prog 41 #[.int .u32 (x : Int), .int .i64 16] w fun e w' => e = .returned (.int .u32 (y : Int)) ∧ w = w' := by rw [hy]; exact rot16 x hx w
theorem rot_nm12 (x y : Nat) (hx : x < 4294967296) (hy : y = rl x 12) (w : World) : Calls Tryd.prog 41 #[.int .u32 (x : Int), .int .i64 12] w fun e w' => e = .returned (.int .u32 (y : Int)) ∧ w = w' := by rw [hy]; exact rot12 x hx w
theorem rot_nm8 (x y : Nat) (hx : x < 4294967296) (hy : y = rl x 8) (w : World) : Calls Tryd.prog 41 #[.int .u32 (x : Int), .int .i64 8] w fun e w' => e = .returned (.int .u32 (y : Int)) ∧ w = w' := by rw [hy]; exact rot8 x hx w
theorem rot_nm7 (x y : Nat) (hx : x < 4294967296) (hy : y = rl x 7) (w : World) : Calls Tryd.prog 41 #[.int .u32 (x : Int), .int .i64 7] w fun e w' => e = .returned (.int .u32 (y : Int)) ∧ w = w' := by rw [hy]; exact rot7 x hx w
theorem info4 : (Tryd.prog.info? 51).map (·.size) = some 4 := by kernel_rfl
theorem add_nm (a b : Nat) : ∃ s, s < 4294967296 ∧ s = m32 (a + b) ∧ ((a : Int) + (b : Int)) % 4294967296 = (s : Int) := ⟨m32 (a + b), m32_lt _, rfl, by unfold m32; simp⟩
theorem xor_nm {a b : Nat} (ha : a < 4294967296) (hb : b < 4294967296) : ∃ s, s < 4294967296 ∧ s = a ^^^ b ∧ bits .xor .u32 (a : Int) (b : Int) = (s : Int) := ⟨a ^^^ b, xor32_lt ha hb, rfl, u32_xor_nat a b ha hb⟩
theorem rl_nm {x : Nat} (hx : x < 4294967296) (n : Nat) : ∃ s, s < 4294967296 ∧ s = rl x n := ⟨rl x n, rl_lt hx n, rfl⟩
set_option maxHeartbeats 1600000 in
set_option maxRecDepth 100000 in
theorem quarter_any (a b c d : Nat) (ha : a < 4294967296) (hb : b < 4294967296) (hc : c < 4294967296) (hd : d < 4294967296) (w : World) :
    Calls Tryd.prog 29 #[.agg (ws [a, b, c, d])] w (Gives w (.agg (ws (qr a b c d)))) := by
  obtain ⟨a1, la1, ea1, Ea1⟩ := add_nm a b
  obtain ⟨x1, lx1, ex1, Ex1⟩ := xor_nm hd la1
  obtain ⟨d1, ld1, ed1⟩ := rl_nm lx1 16
  obtain ⟨c1, lc1, ec1, Ec1⟩ := add_nm c d1
  obtain ⟨x2, lx2, ex2, Ex2⟩ := xor_nm hb lc1
  obtain ⟨b1, lb1, eb1⟩ := rl_nm lx2 12
  obtain ⟨a2, la2, ea2, Ea2⟩ := add_nm a1 b1
  obtain ⟨x3, lx3, ex3, Ex3⟩ := xor_nm ld1 la2
  obtain ⟨d2, ld2, ed2⟩ := rl_nm lx3 8
  obtain ⟨c2, lc2, ec2, Ec2⟩ := add_nm c1 d2
  obtain ⟨x4, lx4, ex4, Ex4⟩ := xor_nm lb1 lc2
  obtain ⟨b2, lb2, eb2⟩ := rl_nm lx4 7
  have HQ := Lib.hid (show qr a b c d = [a2, b2, c2, d2] by
    unfold qr
    simp only [← ea1, ← ex1, ← ed1, ← ec1, ← ex2, ← eb1, ← ea2, ← ex3, ← ed2, ← ec2, ← ex4, ← eb2])
  have R1 := Lib.hid (rot_nm16 x1 d1 lx1 ed1)
  have R2 := Lib.hid (rot_nm12 x2 b1 lx2 eb1)
  have R3 := Lib.hid (rot_nm8 x3 d2 lx3 ed2)
  have R4 := Lib.hid (rot_nm7 x4 b2 lx4 eb2)
  clear ea1 ex1 ed1 ec1 ex2 eb1 ea2 ex3 ed2 ec2 ex4 eb2 la1 lx1 ld1 lc1 lx2 lb1 la2 lx3 ld2 lc2 lx4 lb2 ha hb hc hd
  rw [HQ.out]
  show Calls _ _ #[.agg #[.int .u32 (a : Int), .int .u32 (b : Int), .int .u32 (c : Int), .int .u32 (d : Int)]] _ (Gives w (.agg #[.int .u32 (a2 : Int), .int .u32 (b2 : Int), .int .u32 (c2 : Int), .int .u32 (d2 : Int)]))
  go_enter Tryd.func29, Tryd.ntmps29
  go_wp2_with fail
  go_quiet (fail)
  go_wp2_with (go_at_call 41; first | ((with_reducible refine (R1.out _).mono ?_); rintro e w1 ⟨rfl, rfl⟩) | ((with_reducible refine (R2.out _).mono ?_); rintro e w1 ⟨rfl, rfl⟩) | ((with_reducible refine (R3.out _).mono ?_); rintro e w1 ⟨rfl, rfl⟩) | ((with_reducible refine (R4.out _).mono ?_); rintro e w1 ⟨rfl, rfl⟩))
  refine bodyPost_ret (results_cell_row rfl _ _ (w.heap.size + 1) 51 #[.int .u32 (a2 : Int), .int .u32 (b2 : Int), .int .u32 (c2 : Int), .int .u32 (d2 : Int)] (0, 0) _ rfl ?_ Tryd.underlying51 rfl info4) rfl ⟨rfl, ?_⟩
  · exact set_blk _ (set_blk _ (set_blk _ (set_blk _ (new_1 _ _ _))))
  · exact ((((((((Chg.refl _ _).alloc _).alloc _).drewN _).put (.inr (by omega))).put (.inr (by omega))).put (.inr (by omega))).put (.inr (by omega)))
end Go.Proofs.YtebmbapaedlmiaaDoor
