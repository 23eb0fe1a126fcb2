/-
  The calls of the table of paths (layer 20), fifth part: begin and add, who is live, what is due, a new table.
-/
import Derived.Test.YtiijnhgafadokaaPathsD
import Derived.Deep.RegionWith
namespace Go.Proofs.Ytiijnhgafadokaa
open Go.RowKit Paths

set_option maxHeartbeats 400000 in
theorem Begin_any (b : Nat) (id : Int) (T : Tab) (w : World) (hT : TabAt w b T) :
    Calls Try.prog 19 #[.pointer (some ⟨b, 0, .none⟩), .int .i64 id] w
      (BeginTo w b (code T id) (begins T id ⟨2, 0, 0, 0, [0, 0, 0, 0, 0, 0, 0, 0]⟩)) := by
  have HT := Lib.hid hT
  clear hT
  go_enter Try.func19, Try.ntmps19
  go_wp2_with (go_at_call 64; refine (begin_any b _ 2 0 0 0 0 0 0 0 0 0 T _ HT.out (by omega) (by omega)).mono ?_; rintro e w' ⟨rfl, hC, hT'⟩)
  go_ret
  exact ⟨rfl, hC, hT'⟩

set_option maxHeartbeats 800000 in
theorem Add_any (b : Nat) (id now a0 a1 a2 a3 a4 a5 a6 a7 : Int) (T : Tab) (w : World) (hT : TabAt w b T) :
    Calls Try.prog 18 #[.pointer (some ⟨b, 0, .none⟩), .int .i64 id, .agg #[.int .u8 a0, .int .u8 a1, .int .u8 a2, .int .u8 a3, .int .u8 a4, .int .u8 a5, .int .u8 a6, .int .u8 a7], .int .i64 now] w
      (BeginTo w b (code T id) (begins T id ⟨1, 0, 0, mom now, [a0, a1, a2, a3, a4, a5, a6, a7]⟩)) := by
  have HT := Lib.hid hT
  have hlt := hT.lt
  clear hT
  go_enter Try.func18, Try.ntmps18
  go_wp2
  go_region_with (first
    | (go_at_call 65; refine (moment_any _ _).mono ?_; rintro e w' ⟨rfl, rfl⟩)
    | (go_at_call 64; refine (begin_any b _ 1 (mom now) a0 a1 a2 a3 a4 a5 a6 a7 T _ (HT.out.chg (((Chg.refl Nowhere _).alloc _).drew) (not_nowhere _)) (mom_lo _) (mom_hi _)).mono ?_; rintro e w' ⟨rfl, hC, hT'⟩))
  all_goals
    go_wp2
    go_ret
    exact ⟨rfl, ((Chg.refl (At b) w).alloc _).drew.trans' hC, hT'⟩

theorem infoInt : (Try.prog.info? 3).map (fun i => (i.zero, i.size, i.bytes)) = some (some (.int .i64 0), 1, 8) := by kernel_rfl

def LiveTo (w : World) (l : List Int) (e : Ending) (w' : World) : Prop :=
  ∃ v, e = .returned v ∧ w'.ownsRow w.heap.size 3 1 v l.length (l.map (Value.int .i64)) ∧ Chg Nowhere w w'

theorem liveL_len (T : Tab) (k : Nat) : (liveL T k).length ≤ k := by
  induction k with
  | zero => simp [liveL]
  | succ k ih => unfold liveL; split <;> simp <;> omega

set_option maxHeartbeats 800000 in
set_option maxRecDepth 100000 in
theorem live_any (b : Nat) (T : Tab) (w : World) (hT : TabAt w b T) :
    Calls Try.prog 63 #[.pointer (some ⟨b, 0, .none⟩)] w (LiveTo w (liveL T 256)) := by
  have HT := Lib.hid hT
  have hlt := hT.lt
  clear hT
  obtain ⟨i0, hi, hz0, hz1, hz2⟩ := info_parts infoInt
  go_enter Try.func63, Try.ntmps63
  go_wp2_with fail
  go_loopw [3, 5] (fun v i wr => ∃ k : Nat, k ≤ 256 ∧ i = .int .i64 k ∧ wr.ownsRow w.heap.size 3 1 v (liveL T k).length ((liveL T k).map (Value.int .i64)) ∧ Chg Nowhere w wr) (fun _ i _ => 256 - (intOf i).toNat)
  case atStart => exact ⟨0, by omega, rfl, World.ownsRow_nil _ _ _ _, Chg.refl _ _⟩
  case round =>
    obtain ⟨k, hk, rfl, hown, hC⟩ := hrel
    have HO := Lib.hid hown
    clear hown
    by_cases hk' : k < 256
    · have hs := (hC.cell (p := ⟨b, k * 12, .none⟩) hlt (not_nowhere _)).trans (HT.out.st hk')
      have HC := Lib.hid hC
      have hsz := hC.size
      clear hC
      have hll := liveL_len T k
      by_cases d : (T k).st = 2
      · have d1 : ((T k).st == 2) = true := by simp [d]
        have L := Lib.hid (show liveL T (k + 1) = liveL T k ++ [(k : Int)] by rw [liveL, if_pos d])
        clear d
        go_wp2_with (at_builtin; refine wpList_append_own _ rfl _ _ 34 rfl w.heap.size 3 i0 (.int .i64 0) 1 8 Try.underlying34 hi hz0 hz1 hz2 rfl (by decide) _ _ _ rfl (HO.out.alloc _) ⟨wr.heap.size, 0, .none⟩ 1 1 [.int .i64 (k : Int)] rfl rfl (new1 _ _ _) (fun x hx => by simp at hx; subst hx; rfl) (by unfold maxLen; omega) (by omega) (by simp; omega) ?_; intro v' w3 hown' hgrow3 hnil3)
        have hC3 : Chg Nowhere w w3 := (HC.out.alloc _).grown hgrow3 (fun k hk => .inl (HO.out.lt k hk).1)
        go_roundw
        case rel => exact ⟨k + 1, by omega, by go_num, by rw [L.out]; simpa using hown', hC3⟩
        case measure => simp [intOf]; omega
      · have d1 : ((T k).st == 2) = false := by simp [d]
        have L := Lib.hid (show liveL T (k + 1) = liveL T k by rw [liveL, if_neg d, List.append_nil])
        clear d
        go_wp2_with fail
        go_roundw
        case rel => exact ⟨k + 1, by omega, by go_num, by rw [L.out]; exact HO.out, HC.out⟩
        case measure => simp [intOf]; omega
    · obtain rfl : k = 256 := by omega
      have HC := Lib.hid hC
      clear hC hk hk'
      go_wp2_with fail
      go_ret
      exact ⟨_, rfl, HO.out, HC.out⟩
end Go.Proofs.Ytiijnhgafadokaa
