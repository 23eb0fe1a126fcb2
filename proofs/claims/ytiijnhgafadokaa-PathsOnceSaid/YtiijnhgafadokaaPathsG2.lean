/-
  Two rows of numbers compared.
-/
import Derived.Test.YtiijnhgafadokaaPathsG
namespace Go.Proofs.Ytiijnhgafadokaa
open Go.RowKit Paths

def IntsTo (w : World) (r : Bool) (e : Ending) (w' : World) : Prop := e = .returned (.bool r) ∧ Chg Nowhere w w'

set_option maxHeartbeats 800000 in
set_option maxRecDepth 100000 in
theorem ints_any (va vb : Value) (l m : List Int) (w : World) (ha : Rd w va 1 l.length (l.map (Value.int .i64))) (hb : Rd w vb 1 m.length (m.map (Value.int .i64)))
    (hl : l.length ≤ 4611686018427387904) (hm : m.length ≤ 4611686018427387904) :
    Calls Try.prog 62 #[va, vb] w (IntsTo w (decide (l = m))) := by
  obtain ⟨_, A, ca, rfl, hca, hA⟩ := ha
  obtain ⟨_, B, cb, rfl, hcb, hB⟩ := hb
  have HA := Lib.hid hA
  have HB := Lib.hid hB
  clear hA hB
  by_cases he : l.length = m.length
  · have e1 : ((l.length : Int) != (m.length : Int)) = false := by simp [he]
    have HE := Lib.hid he
    clear he
    go_enter Try.func62, Try.ntmps62
    go_wp2_with fail
    go_loopw [5] (fun i wr => ∃ k : Nat, k ≤ l.length ∧ i = .int .i64 k ∧ (∀ j, j < k → l[j]? = m[j]?) ∧ Chg Nowhere w wr) (fun i _ => l.length - (intOf i).toNat)
    case atStart => exact ⟨0, by omega, rfl, fun j hj => absurd hj (by omega), Chg.refl _ _⟩
    case round =>
      obtain ⟨k, hk, rfl, hs, hC⟩ := hrel
      have HS := Lib.hid hs
      have HC := Lib.hid hC
      clear hs hC
      by_cases hk' : k < l.length
      · obtain ⟨ga, oa, rfl, hga, hca'⟩ := HA.out (by omega)
        obtain ⟨gb, ob, rfl, hgb, hcb'⟩ := HB.out (by have := HE.out; omega)
        have c1 := (HC.out.cell (p := ⟨ga, oa + k, .none⟩) hga (not_nowhere _)).trans ((hca' k (by simpa using hk')).trans (by rw [List.getElem?_map, List.getElem?_eq_getElem hk']))
        have hk2 : k < m.length := by have := HE.out; omega
        have c2 := (HC.out.cell (p := ⟨gb, ob + k, .none⟩) hgb (not_nowhere _)).trans ((hcb' k (by simpa using hk2)).trans (by rw [List.getElem?_map, List.getElem?_eq_getElem hk2]))
        generalize hx : l[k] = x at c1
        generalize hy : m[k] = y at c2
        have HX := Lib.hid hx
        have HY := Lib.hid hy
        clear hca' hcb' hx hy
        by_cases d : x = y
        · have d1 : (x != y) = false := by simp [d]
          have D := Lib.hid d
          clear d
          go_wp2_with fail
          go_quiet (fail)
          go_wp2_with fail
          go_roundw
          case rel => exact ⟨k + 1, by omega, by go_num, fun j hj => by
            by_cases hjk : j < k
            · exact HS.out j hjk
            · obtain rfl : j = k := by omega
              rw [List.getElem?_eq_getElem hk', List.getElem?_eq_getElem hk2, HX.out, HY.out, D.out], HC.out.drewN _⟩
          case measure => simp [intOf]; omega
        · have d1 : (x != y) = true := by simp [d]
          have D := Lib.hid (show decide (l = m) = false by
            rw [decide_eq_false_iff_not]; intro e; subst e; exact d (HX.out.symm.trans HY.out))
          clear d
          go_wp2_with fail
          go_quiet (fail)
          go_wp2_with fail
          go_ret
          exact ⟨by rw [D.out]; rfl, HC.out.drewN _⟩
      · obtain rfl : k = l.length := by omega
        have D := Lib.hid (show decide (l = m) = true by
          rw [decide_eq_true_eq]
          apply List.ext_getElem? 
          intro j
          by_cases hj : j < l.length
          · exact HS.out j hj
          · rw [List.getElem?_eq_none (by omega), List.getElem?_eq_none (by have := HE.out; omega)])
        go_wp2_with fail
        go_ret
        exact ⟨by rw [D.out]; rfl, HC.out⟩
  · have e1 : ((l.length : Int) != (m.length : Int)) = true := by simp; omega
    have D := Lib.hid (show decide (l = m) = false by rw [decide_eq_false_iff_not]; intro e; exact he (by rw [e]))
    clear he
    go_enter Try.func62, Try.ntmps62
    go_wp2_with fail
    go_ret
    exact ⟨by rw [D.out]; rfl, Chg.refl _ _⟩
end Go.Proofs.Ytiijnhgafadokaa
