/-
  A row of ranges turned round in place (slices.Reverse).
-/
import Derived.Test.YtiijnhgafadokaaWinD
import Derived.Test.YtiijnhgafadokaaRng
namespace Go.Proofs.Ytiijnhgafadokaa
open Go.RowKit Wins
set_option linter.unusedVariables false

def RevTo (w : World) (base : Nat) (v : Value) (l : List (Int × Int)) (e : Ending) (w' : World) : Prop :=
  e = .returned (.tuple #[]) ∧ w'.ownsRow base 49 2 v l.length (flat l.reverse) ∧ Chg (fun k => v.ownBlock = some k) w w'

set_option maxHeartbeats 1600000 in
set_option maxRecDepth 100000 in
theorem reverse_any (base : Nat) (v : Value) (l : List (Int × Int)) (w : World) (h : w.ownsRow base 49 2 v l.length (flat l)) (hl : l.length ≤ 1000000) :
    Calls Try.prog 68 #[v] w (RevTo w base v l) := by
  have H := Lib.hid h
  rcases h.2 with ⟨rfl, hn⟩ | ⟨g, cap, cur, rfl, hb, hh, hnc, hcm, hsz, hx⟩
  · have : l = [] := List.length_eq_zero_iff.1 hn
    subst this
    clear h hn
    go_enter Try.func68, Try.ntmps68
    go_wp2_with fail
    refine wp_loop_rounds 1 ?_
    rw [rounds_succ]
    go_wp2_with fail
    go_end0
    exact ⟨rfl, H.out, Chg.refl _ _⟩
  · clear h hh hsz hx
    go_enter Try.func68, Try.ntmps68
    go_wp2_with fail
    go_loopw [2, 3] (fun i j wr => ∃ k : Nat, 2 * k ≤ l.length ∧ i = .int .i64 k ∧ j = .int .i64 ((l.length : Int) - 1 - k) ∧ wr.ownsRow base 49 2 (.slice (some ⟨g, 0, none⟩) l.length cap) l.length (flat (revTo l k)) ∧ Chg (fun k => k = g) w wr) (fun i _ _ => l.length - (intOf i).toNat)
    case atStart => exact ⟨0, by omega, rfl, by go_num, H.out, Chg.refl _ _⟩
    case round =>
      obtain ⟨k, hk, rfl, rfl, hO, hC⟩ := hrel
      have HO := Lib.hid hO
      have HC := Lib.hid hC
      clear hO hC
      by_cases hlt : (k : Int) < (l.length : Int) - 1 - k
      · obtain ⟨m, hm⟩ : ∃ m : Nat, m = l.length - 1 - k := ⟨_, rfl⟩
        have hm1 : ((l.length : Int) - 1 - k) = (m : Int) := by omega
        have hkm : k < m := by omega
        have hml : m < l.length := by omega
        rw [hm1]
        have HM := Lib.hid hm
        have HM1 := Lib.hid hm1
        obtain ⟨a, ha⟩ : ∃ a, (revTo l k)[k]? = some a := ⟨_, List.getElem?_eq_getElem (by rw [revTo_len]; omega)⟩
        obtain ⟨b, hb'⟩ : ∃ b, (revTo l k)[m]? = some b := ⟨_, List.getElem?_eq_getElem (by rw [revTo_len]; omega)⟩
        obtain ⟨a1, a2⟩ := flat_get _ _ _ ha
        obtain ⟨b1, b2⟩ := flat_get _ _ _ hb'
        have c1 := (HO.out.cellAt (k * 2) (by omega)).trans a1
        have c2 := (HO.out.cellAt (k * 2 + 1) (by omega)).trans a2
        have c3 := (HO.out.cellAt (m * 2) (by omega)).trans b1
        have c4 := (HO.out.cellAt (m * 2 + 1) (by omega)).trans b2
        have f1 := fun j => HO.out.frozenAt j
        have S := Lib.hid (show swap (revTo l k) k m = ((revTo l k).set k b).set m a by unfold swap; rw [ha, hb'])
        clear hm hm1 ha hb' a1 a2 b1 b2 hlt
        go_wp2_with fail
        go_region
        have o1 := (HO.out.stored (k * 2) (.int .i64 b.1)).1
        have o2 := (o1.stored (k * 2 + 1) (.int .i64 b.2)).1
        have o3 := (o2.stored (m * 2) (.int .i64 a.1)).1
        have o4 := (o3.stored (m * 2 + 1) (.int .i64 a.2)).1
        rw [flat_set, flat_set, ← S.out] at o4
        have O4 := Lib.hid o4
        clear o1 o2 o3 o4
        go_wp2_with fail
        go_roundw
        case rel => exact ⟨k + 1, (by have := HM1.out; omega), by go_num, (by have := HM1.out; go_num), (by rw [revTo, ← HM.out]; exact O4.out.drew), (((HC.out.put (.inl rfl)).put (.inl rfl)).put (.inl rfl)).put (.inl rfl) |>.drew⟩
        case measure => simp [intOf]; omega
      · have hk2 : k = l.length / 2 := by omega
        have E := Lib.hid (revTo_all l)
        have HK2 := Lib.hid hk2
        clear hk2
        go_wp2_with fail
        go_end0
        exact ⟨rfl, by have := HO.out; rw [HK2.out, E.out] at this; exact this, HC.out.mono fun i _ e => by have : i = g := e; rw [this]; rfl⟩
end Go.Proofs.Ytiijnhgafadokaa
