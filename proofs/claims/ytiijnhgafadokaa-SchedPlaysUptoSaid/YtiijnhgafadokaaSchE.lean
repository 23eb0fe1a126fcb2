/-
  The scheduler (layer 21): carried, lose.
-/
import Derived.Test.YtiijnhgafadokaaSchD
namespace Go.Proofs.Ytiijnhgafadokaa
open Go.RowKit
set_option linter.unusedVariables false

def cars (l : List Rec) : List (Int × Int) := l.flatMap (·.car)
theorem cars_snoc {l : List Rec} {k : Nat} {r : Rec} (h : l[k]? = some r) : cars (l.take (k + 1)) = cars (l.take k) ++ r.car := by
  unfold cars; rw [List.take_add_one, h, List.flatMap_append]; simp
theorem cars_len {w : World} (l : List Rec) (h : ∀ r ∈ l, RecOk w r) : (cars l).length ≤ l.length * 2000000 := by
  induction l with
  | nil => simp [cars]
  | cons r l ih =>
    have h1 := ih fun q hq => h q (List.mem_cons_of_mem _ hq)
    have h2 := (h r (List.mem_cons_self ..)).len
    unfold cars at h1 ⊢
    rw [List.flatMap_cons, List.length_append, List.length_cons]
    omega
def CarriedTo (w : World) (l : List Rec) (e : Ending) (w' : World) : Prop :=
  ∃ v, e = .returned v ∧ w'.ownsRow w.heap.size 49 2 v (cars l).length (flat (cars l)) ∧ Chg Nowhere w w'
set_option maxHeartbeats 1600000 in
set_option maxRecDepth 100000 in
theorem carried_any (v : Value) (l : List Rec) (w : World) (hrow : w.ownsRow 0 104 3 v l.length (rcl l)) (hrecs : ∀ r ∈ l, RecOk w r) (hl : l.length ≤ 100000) :
    Calls Try.prog 82 #[v] w (CarriedTo w l) := by
  obtain ⟨i0, hi, hz0, hz1, hz2⟩ := info_parts infoRng
  obtain ⟨-, A, cp, rfl, -, hA⟩ := Rd.of_owns hrow
  have HA := Lib.hid hA
  have HR := Lib.hid hrecs
  clear hA hrow hrecs
  go_enter Try.func82, Try.ntmps82
  go_wp2_with fail
  go_loopw [3, 8] (fun o i wr => ∃ (k : Nat), k ≤ l.length ∧ i = .int .i64 k ∧ wr.ownsRow w.heap.size 49 2 o (cars (l.take k)).length (flat (cars (l.take k))) ∧ Chg Nowhere w wr) (fun _ i _ => 100000 - (intOf i).toNat)
  case atStart => exact ⟨0, by omega, rfl, World.ownsRow_nil _ _ _ _, Chg.refl _ _⟩
  case round =>
    obtain ⟨k, hk, rfl, hO, hC⟩ := hrel
    have HO := Lib.hid hO
    have HC := Lib.hid hC
    have hsz := hC.size
    by_cases hk2 : k < l.length
    · obtain ⟨r, hr⟩ : ∃ r, l[k]? = some r := ⟨_, List.getElem?_eq_getElem hk2⟩
      obtain ⟨gr, o, rfl, hgr, hcell⟩ := HA.out (by omega)
      have hlen := rcl_len l
      have hcc : ∀ j u, j < 3 → (rcl l)[k * 3 + j]? = some u → wr.cell? ⟨gr, o + (k * 3 + j), .none⟩ = some u := fun j u hj hu =>
        (hC.cell (p := ⟨gr, o + (k * 3 + j), .none⟩) hgr (not_nowhere _)).trans ((hcell (k * 3 + j) (by omega)).trans hu)
      obtain ⟨g0, g1, g2⟩ := rcl_get l k r hr
      have d0 : wr.cell? ⟨gr, o + k * 3, .none⟩ = some (.int .i64 r.c) := hcc 0 _ (by omega) g0
      have d1 : wr.cell? ⟨gr, o + k * 3 + 1, .none⟩ = some (.int .i64 r.t) := hcc 1 _ (by omega) g1
      have d2 : wr.cell? ⟨gr, o + k * 3 + 2, .none⟩ = some r.cv := hcc 2 _ (by omega) g2
      have hro := (HR.out r (List.mem_of_getElem? hr))
      have HRO := Lib.hid hro
      have hb1 := cars_len (l.take k) (fun q hq => HR.out q (List.mem_of_mem_take hq))
      have hb2 : (l.take k).length ≤ k := by simp; omega
      have hb3 := hro.len
      have E := Lib.hid (cars_snoc hr)
      clear hcell hcc g0 g1 g2 hr hC
      rcases hro.row.2 with ⟨hv, h0⟩ | ⟨g', cap', cur', hv, -, hgh, -, -, -, -⟩
      · rw [hv] at d2
        have h1 : r.car = [] := List.length_eq_zero_iff.1 h0
        have E2 := Lib.hid (show cars (l.take (k + 1)) = cars (l.take k) by rw [E.out, h1, List.append_nil])
        clear hro hv h0 h1 hO
        go_wp2_with (at_builtin; refine wpList_append_own_none rfl _ _ 45 rfl w.heap.size 49 i0 2 Try.underlying45 hi _ _ _ rfl (HO.out.alloc _) rfl ?_)
        go_roundw
        case rel => exact ⟨k + 1, by omega, by go_num, by rw [E2.out]; exact HO.out.alloc _, HC.out.alloc _⟩
        case measure => simp [intOf]; omega
      · rw [hv] at d2
        have hcl := Lib.hid (((own_chg HRO.out.row HC.out (fun _ _ => not_nowhere _)).alloc (.cells #[.int .i64 r.c, .int .i64 r.t, .slice (some ⟨g', 0, .none⟩) r.car.length cap'] 104)).cells (g := g') (by rw [hv]; rfl))
        have HFL := Lib.hid (flat_one' r.car)
        have hfl := flat_len r.car
        clear hro hv hgh hO
        go_wp2_with (at_builtin; refine wpList_append_own _ rfl _ _ 45 rfl w.heap.size 49 i0 (.agg #[.int .i64 0, .int .i64 0]) 2 16 Try.underlying45 hi hz0 hz1 hz2 rfl (by decide) _ _ _ rfl (HO.out.alloc _) ⟨g', 0, .none⟩ r.car.length cap' (flat r.car) rfl hfl hcl.out HFL.out (by unfold maxLen; omega) (by omega) (by simp; omega) ?_; intro v' w3 hown' hgrow3 hnil3; have HN := Lib.hid hown'; have HC3 := Lib.hid ((HC.out.alloc _).grown hgrow3 (fun k' hk' => .inl ((HO.out.lt k' hk').1))); clear hown' hgrow3 hnil3)
        go_roundw
        case rel => exact ⟨k + 1, by omega, by go_num, by rw [E.out, List.length_append, flat_append]; exact HN.out, HC3.out⟩
        case measure => simp [intOf]; omega
    · obtain rfl : k = l.length := by omega
      rw [List.take_length] at hO
      go_wp2_with fail
      go_ret
      exact ⟨_, rfl, hO, HC.out⟩
end Go.Proofs.Ytiijnhgafadokaa
