/-
  The calls of the table of paths (layer 20), sixth part: what is due.
-/
import Derived.Test.YtiijnhgafadokaaPathsE
namespace Go.Proofs.Ytiijnhgafadokaa
open Go.RowKit Paths

def DueTo (w : World) (b : Nat) (T : Tab) (l : List Int) (e : Ending) (w' : World) : Prop :=
  ∃ v, e = .returned v ∧ w'.ownsRow w.heap.size 3 1 v l.length (l.map (Value.int .i64)) ∧ Chg (At b) w w' ∧ TabAt w' b T

theorem dueL_len (n : Int) (T : Tab) (k : Nat) : (dueL n T k).length ≤ k := by
  induction k with
  | zero => simp [dueL]
  | succ k ih => unfold dueL; split <;> simp <;> omega

theorem moment_eq (a n : Int) (w : World) (h : Hid (mom a = n)) :
    Calls Try.prog 65 #[.int .i64 a] w fun e w' => e = .returned (.int .i64 n) ∧ w = w' := by
  have := moment_any a w
  rwa [h.out] at this

def DueRel (w : World) (b : Nat) (n : Int) (T : Tab) (k : Nat) (v : Value) (wr : World) : Prop :=
  wr.ownsRow w.heap.size 3 1 v (dueL n T k).length ((dueL n T k).map (Value.int .i64)) ∧ Chg (At b) w wr ∧ TabAt wr b (dueTo n T k)

set_option maxHeartbeats 1600000 in
set_option maxRecDepth 100000 in
theorem due_core (b : Nat) (now n : Int) (T : Tab) (w : World) (hT : TabAt w b T) (hn : Hid (mom now = n)) (n0 : 0 ≤ n) (n1 : n ≤ 1099511627776) :
    Calls Try.prog 20 #[.pointer (some ⟨b, 0, .none⟩), .int .i64 now] w (DueTo w b (dueTo n T 256) (dueL n T 256)) := by
  have HT := Lib.hid hT
  have hlt := hT.lt
  clear hT
  obtain ⟨i0, hi, hz0, hz1, hz2⟩ := info_parts infoInt
  go_enter Try.func20, Try.ntmps20
  go_wp2_with (go_at_call 65; refine (moment_eq _ n _ hn).mono ?_; rintro e w' ⟨rfl, rfl⟩)
  go_loopw [5, 10] (fun v i wr => ∃ k : Nat, k ≤ 256 ∧ i = .int .i64 k ∧ DueRel w b n T k v wr) (fun _ i _ => 256 - (intOf i).toNat)
  case atStart => exact ⟨0, by omega, rfl, World.ownsRow_nil _ _ _ _, Chg.refl _ _, by rw [dueTo_zero]; exact HT.out⟩
  case round =>
    obtain ⟨k, hk, rfl, hown, hC, hTk⟩ := hrel
    have HO := Lib.hid hown
    have HC := Lib.hid hC
    have HTk := Lib.hid hTk
    have hsz := hC.size
    clear hown hC hTk
    by_cases hk' : k < 256
    · have h1 := (HTk.out.st hk').trans (by rw [dueTo_at])
      have h2 := (HTk.out.rtt hk').trans (by rw [dueTo_at])
      have h3 := (HTk.out.tries hk').trans (by rw [dueTo_at])
      have h4 := (HTk.out.next hk').trans (by rw [dueTo_at])
      have f1 := HTk.out.fz (k * 12)
      have f2 := HTk.out.fz (k * 12 + 2)
      have f3 := HTk.out.fz (k * 12 + 3)
      have o := HT.out.ok k
      have o1 := o.rtt0
      have o2 := o.rtt1
      have o3 := o.tries0
      have o4 := o.tries1
      have hll := dueL_len n T k
      have hbl : b < wr.heap.size := by omega
      clear o
      by_cases c : (T k).st ≠ 1 ∨ n < (T k).next
      · have L := Lib.hid (show dueL n T (k + 1) = dueL n T k by
          rw [dueL, if_neg, List.append_nil]; simp [told]; intro a b; exact absurd c (by omega))
        have D := Lib.hid (show dueTo n T (k + 1) = dueTo n T k by
          rw [dueTo_succ, dueP, if_pos c]; have := upd_self (dueTo n T k) k; rwa [dueTo_at] at this)
        have cc : ((T k).st != 1 || decide (n < (T k).next)) = true := by simp; omega
        have C := Lib.hid c
        clear c
        by_cases c3 : (T k).st = 1
        · have c4 : ((T k).st != 1) = false := by simp [c3]
          have c5 : decide (n < (T k).next) = true := by have := C.out; simp; omega
          clear c3 cc
          go_wp2_with fail
          go_roundw
          case rel => exact ⟨k + 1, by omega, by go_num, by rw [L.out]; exact HO.out, HC.out, by rw [D.out]; exact HTk.out⟩
          case measure => simp [intOf]; omega
        · have c4 : ((T k).st != 1) = true := by simp [c3]
          clear c3 cc
          go_wp2_with fail
          go_roundw
          case rel => exact ⟨k + 1, by omega, by go_num, by rw [L.out]; exact HO.out, HC.out, by rw [D.out]; exact HTk.out⟩
          case measure => simp [intOf]; omega
      · have c1 : ((T k).st != 1) = false := by simp; omega
        have c2 : decide (n < (T k).next) = false := by simp; omega
        have HCc := Lib.hid c
        clear c
        by_cases d : (T k).tries = 4
        · have d1 : ((T k).tries == 4) = true := by simp [d]
          have L := Lib.hid (show dueL n T (k + 1) = dueL n T k by
            rw [dueL, if_neg, List.append_nil]; simp [told]; intro _ _; exact d)
          have D := Lib.hid (show dueTo n T (k + 1) = upd (dueTo n T k) k { T k with st := 4 } by
            rw [dueTo_succ, dueP, if_neg HCc.out, if_pos d])
          clear d
          go_wp2_with fail
          go_roundw
          case rel => exact ⟨k + 1, by omega, by go_num, by rw [L.out]; exact ownsRow_setCell_below HO.out (by exact hlt) _, HC.out.putAt, by
            rw [D.out]
            exact HTk.out.set hk' 0 (by omega) 4 _ (ok_st (HT.out.ok k) 4) rfl (by rw [dueTo_at]; rfl) (by rw [dueTo_at]; rfl) (by rw [dueTo_at]; rfl) (by rw [dueTo_at])⟩
          case measure => simp [intOf]; omega
        · have d1 : ((T k).tries == 4) = false := by simp [d]
          have d2 : (T k).tries ≤ 3 := by omega
          have L := Lib.hid (show dueL n T (k + 1) = dueL n T k ++ [(k : Int)] by
            have := HCc.out
            rw [dueL, if_pos]; simp [told]; omega)
          have D := Lib.hid (show dueTo n T (k + 1) = upd (dueTo n T k) k ⟨(T k).st, (T k).rtt, (T k).tries + 1, n + (T k).rtt * 2 ^ ((T k).tries + 1).toNat, (T k).tok⟩ by
            rw [dueTo_succ, dueP, if_neg HCc.out, if_neg d])
          have ⟨hp, hp0⟩ := pow_small (T k).tries o3 d2
          have P1 : (T k).rtt * 2 ^ ((T k).tries + 1).toNat ≤ 1099511627776 * 16 := Int.mul_le_mul o2 hp hp0 (by decide)
          have P0 : 0 ≤ (T k).rtt * 2 ^ ((T k).tries + 1).toNat := Int.mul_nonneg o1 hp0
          have w1 : wrap64 ((T k).rtt * 2 ^ ((T k).tries + 1).toNat) = (T k).rtt * 2 ^ ((T k).tries + 1).toNat := IntWalk.wrap64_in _ (by omega)
          have w2 : wrap64 (n + (T k).rtt * 2 ^ ((T k).tries + 1).toNat) = n + (T k).rtt * 2 ^ ((T k).tries + 1).toNat := IntWalk.wrap64_in _ (by omega)
          have HW1 := Lib.hid w1
          have HW2 := Lib.hid w2
          clear w1 w2
          clear d hp hp0
          go_wp2_with fail
          go_region
          generalize (T k).rtt * 2 ^ ((T k).tries + 1).toNat = X at P0 P1 D ⊢
          clear HW1 HW2
          go_wp2_with (at_builtin; refine wpList_append_own _ rfl _ _ 34 rfl w.heap.size 3 i0 (.int .i64 0) 1 8 Try.underlying34 hi hz0 hz1 hz2 rfl (by decide) _ _ _ rfl (((ownsRow_setCell_below (ownsRow_setCell_below HO.out (by exact hlt) _) (by exact hlt) _).alloc _).drew) ⟨wr.heap.size, 0, .none⟩ 1 1 [.int .i64 (k : Int)] rfl rfl (new1' ((wr.setCell ⟨b, k * 12 + 2, .none⟩ (.int .i64 ((T k).tries + 1))).setCell ⟨b, k * 12 + 3, .none⟩ (.int .i64 (n + X))) _ _ _ (by rw [set_size, set_size])) (fun x hx => by simp at hx; subst hx; rfl) (by unfold maxLen; omega) (by omega) (by simp; omega) ?_; intro v' w3 hown' hgrow3 hnil3)
          have hC3 : Chg (At b) w w3 := (((HC.out.putAt.putAt).alloc _).drew).grown hgrow3 (fun g hg => .inl (HO.out.lt g hg).1)
          have hne : ∀ g, u5.ownBlock = some g → b ≠ g := fun g hg e => by have := (HO.out.lt g hg).1; omega
          have hT3 : TabAt w3 b (upd (dueTo n T k) k ⟨(T k).st, (T k).rtt, (T k).tries + 1, n + X, (T k).tok⟩) := by
            have q1 := HTk.out.set hk' 2 (by omega) ((T k).tries + 1) ⟨(T k).st, (T k).rtt, (T k).tries + 1, (T k).next, (T k).tok⟩ ⟨o1, o2, by show 0 ≤ (T k).tries + 1; omega, by show (T k).tries + 1 ≤ 4; omega, (HT.out.ok k).next0, (HT.out.ok k).next1, (HT.out.ok k).tok⟩
              (by rw [dueTo_at]; rfl) (by rw [dueTo_at]; rfl) rfl (by rw [dueTo_at]; rfl) (by rw [dueTo_at])
            have q2 := q1.set hk' 3 (by omega) (n + X) ⟨(T k).st, (T k).rtt, (T k).tries + 1, n + X, (T k).tok⟩ ⟨o1, o2, by show 0 ≤ (T k).tries + 1; omega, by show (T k).tries + 1 ≤ 4; omega, by show 0 ≤ n + X; omega, by show n + X ≤ _; omega, (HT.out.ok k).tok⟩
              (by rw [upd_at]; rfl) (by rw [upd_at]; rfl) (by rw [upd_at]; rfl) rfl (by rw [upd_at])
            rw [upd_upd] at q2
            refine (q2.keep (w' := w3) ?_)
            refine (hgrow3.block b (by simp [World.setCell]; omega) ?_).trans ?_
            · intro e; exact hne b e.symm rfl
            · exact Below.heap_alloc _ _ _ (by simp [World.setCell]; omega)
          go_roundw
          case rel => exact ⟨k + 1, by omega, by go_num, by rw [L.out]; simpa using hown', hC3, by rw [D.out]; exact hT3⟩
          case measure => simp [intOf]; omega
    · obtain rfl : k = 256 := by omega
      clear hk hk' hn
      go_wp2_with fail
      go_ret
      exact ⟨_, rfl, HO.out, HC.out, HTk.out⟩

theorem due_any (b : Nat) (now : Int) (T : Tab) (w : World) (hT : TabAt w b T) :
    Calls Try.prog 20 #[.pointer (some ⟨b, 0, .none⟩), .int .i64 now] w (DueTo w b (dueTo (mom now) T 256) (dueL (mom now) T 256)) :=
  due_core b now (mom now) T w hT (Lib.hid rfl) (mom_lo now) (mom_hi now)
end Go.Proofs.Ytiijnhgafadokaa
