/-
  Package sort: Search. Package ranges: what an object is; inside, the closures, touched (the walks).
-/
import Derived.Test.YtlkbfacdaelbfaaChecked
import Derived.Test.YtlkbfacdaelbfaaRaPure
import Derived.Maps.AppendAt
import Derived.Laws.AppendOwnNone
import Derived.Lib.SliceRun
namespace Go.Proofs.Ytlkbfacdaelbfaa
open Go.RowKit
set_option linter.unusedVariables false

def Gives (w : World) (v : Value) : Ending → World → Prop := fun e w' => e = .returned v ∧ Chg Nowhere w w'
theorem enter_of {f : Nat} {fn : Func} {c : Code} (hf : Try.prog.funcs[f]? = some fn) (hname : (fn.name == "runtime.NumGoroutine") = false) (hb : fn.body = some c) (args : Array Value) (w : World) :
    (callFunc f args).run Try.prog w = .ok (.enter f args) w := by
  have h1 : fn.name ≠ "runtime.NumGoroutine" := by simpa using hname
  simp [callFunc, hf, h1, hb]
/-- Where a search ends. -/
def Cutoff (p : Nat → Bool) (n r : Nat) : Prop := r ≤ n ∧ (∀ k, k < r → p k = false) ∧ (∀ k, r ≤ k → k < n → p k = true)
def GivesCut (w : World) (p : Nat → Bool) (n : Nat) : Ending → World → Prop := fun e w' => ∃ r : Nat, e = .returned (.int .i64 (r : Int)) ∧ Cutoff p n r ∧ Chg Nowhere w w'
set_option maxHeartbeats 2000000 in
set_option maxRecDepth 100000 in
theorem search_any (n : Nat) (hn : n ≤ 4000000000) (fid : Nat) (caps : Array Value) (p : Nat → Bool) (w : World) (hen : ∀ (args : Array Value) (w : World), (callFunc fid args).run Try.prog w = .ok (.enter fid args) w)
    (hf : ∀ w' (k : Nat), Chg Nowhere w w' → k < n → Calls Try.prog fid (#[.int .i64 (k : Int)] ++ caps) w' (Gives w' (.bool (p k)))) (hm : ∀ a b, a ≤ b → b < n → p a = true → p b = true) :
    Calls Try.prog 77 #[.int .i64 (n : Int), .func (.func fid) #[] caps] w (GivesCut w p n) := by
  have HF := Lib.hid hf
  have HM := Lib.hid hm
  clear hf hm
  go_enter Try.func77, Try.ntmps77
  go_wp2_with fail
  go_loopw [5, 6] (fun i j wr => ∃ a b : Nat, i = .int .i64 (a : Int) ∧ j = .int .i64 (b : Int) ∧ a ≤ b ∧ b ≤ n ∧ Hid ((∀ k, k < a → p k = false) ∧ (∀ k, b ≤ k → k < n → p k = true)) ∧ Chg Nowhere w wr) (fun i j _ => (intOf j).toNat - (intOf i).toNat)
  case atStart => exact ⟨0, n, rfl, rfl, by omega, by omega, ⟨fun k hk => (by omega), fun k h1 h2 => (by omega)⟩, Chg.refl _ _⟩
  case round =>
    obtain ⟨a, b, rfl, rfl, hab, hbn, HP, hC⟩ := hrel
    have HC := Lib.hid hC
    clear hC
    by_cases h : a < b
    · have hd : decide ((a : Int) < (b : Int)) = true := decide_eq_true (by omega)
      obtain ⟨m, hmm⟩ : ∃ m, m = (a + b) / 2 := ⟨_, rfl⟩
      have hm1 : ((a : Int) + (b : Int)) / 2 = (m : Int) := by omega
      have hm2 : a ≤ m ∧ m < b := by omega
      clear hmm
      obtain ⟨t, ht⟩ : ∃ t, t = p m := ⟨_, rfl⟩
      have HT := Lib.hid ht
      have HCall := Lib.hid (HF.out wr m HC.out (by omega))
      rw [← ht] at HCall
      clear ht
      go_wp2_with fail
      refine HCall.out.mono ?_
      rintro e w2 ⟨rfl, hC2⟩
      have HC2 := Lib.hid (HC.out.then_none hC2)
      clear hC2 HCall
      cases t with
      | true =>
        go_wp2_with fail
        go_roundw
        case rel => exact ⟨a, m, rfl, rfl, by omega, by omega, ⟨HP.out.1, fun k h1 h2 => HM.out m k h1 h2 HT.out.symm⟩, HC2.out⟩
        case measure => simp [intOf]; omega
      | false =>
        go_wp2_with fail
        go_roundw
        case rel =>
          have low : ∀ k, k < m + 1 → p k = false := fun k hk => by
            cases hq : p k with
            | false => rfl
            | true =>
              have := HM.out k m (by omega) (by omega) hq
              rw [← HT.out] at this
              cases this
          exact ⟨m + 1, b, by go_num, rfl, by omega, by omega, ⟨low, HP.out.2⟩, HC2.out⟩
        case measure => simp [intOf]; omega
    · obtain rfl : a = b := by omega
      have hd : decide ((a : Int) < (a : Int)) = false := decide_eq_false (by omega)
      go_wp2_with fail
      go_ret
      exact ⟨a, rfl, ⟨hbn, HP.out.1, HP.out.2⟩, HC.out⟩
/-- An object of package ranges. -/
structure RaAt (w : World) (o : Nat) (v : Value) (L : List Ra.Row) : Prop where
  blk : w.heap[o]? = some (.cells #[v] 89 (0, 0))
  row : w.ownsRow 0 33 2 v L.length (flat L)
theorem own_chg {w w' : World} {base : Nat} {e : TypeId} {size : Nat} {v : Value} {n : Nat} {xs : List Value} {S : Nat → Prop} (h : w.ownsRow base e size v n xs) (hc : Chg S w w') (hn : ∀ i, v.ownBlock = some i → ¬ S i) : w'.ownsRow base e size v n xs := by
  refine ⟨h.1, ?_⟩
  rcases h.2 with h0 | ⟨g, cap, cur, hv, hg, hh, h1⟩
  · exact .inl h0
  · exact .inr ⟨g, cap, cur, hv, hg, hc.keep hh (hn g (by rw [hv]; rfl)), h1⟩
theorem own_blk {w : World} {base : Nat} {e : TypeId} {size : Nat} {v : Value} {n : Nat} {xs : List Value} (h : w.ownsRow base e size v n xs) {i : Nat} (hi : v.ownBlock = some i) : ∃ cur, w.heap[i]? = some (.cells cur e (0,0)) := by
  rcases h.2 with ⟨rfl, _⟩ | ⟨g, cap, cur, rfl, _, hh, _⟩
  · cases hi
  · simp only [Value.ownBlock, Option.some.injEq] at hi; subst hi; exact ⟨_, hh⟩
theorem RaAt.chg {w w' : World} {o : Nat} {v : Value} {L : List Ra.Row} {S : Nat → Prop} (h : RaAt w o v L) (hc : Chg S w w') (ho : ¬ S o) (hv : ∀ i, v.ownBlock = some i → ¬ S i) : RaAt w' o v L :=
  ⟨hc.keep h.blk ho, own_chg h.row hc hv⟩
theorem RaAt.idle {w w' : World} {o : Nat} {v : Value} {L : List Ra.Row} (h : RaAt w o v L) (hc : Chg Nowhere w w') : RaAt w' o v L := h.chg hc (not_nowhere _) (fun _ _ => not_nowhere _)
theorem RaAt.rd {w : World} {o : Nat} {v : Value} {L : List Ra.Row} (h : RaAt w o v L) : Rd w v 2 L.length (flat L) := Rd.of_owns h.row
theorem some_getD {α : Type} {l : List α} {k : Nat} {d : α} (h : k < l.length) : l[k]? = some (l.getD k d) := by
  rw [List.getD_eq_getElem?_getD, List.getElem?_eq_getElem h]; rfl
/-- One row of it. -/
theorem RaAt.cells {w : World} {o : Nat} {v : Value} {L : List Ra.Row} (h : RaAt w o v L) {k : Nat} (hk : k < L.length) :
    ∃ g c, v = .slice (some ⟨g, 0, none⟩) L.length c ∧ g < w.heap.size ∧ w.cell? ⟨g, k * 2, none⟩ = some (.int .i64 (L.getD k (0, 0)).1) ∧ w.cell? ⟨g, k * 2 + 1, none⟩ = some (.int .i64 (L.getD k (0, 0)).2) := by
  rcases h.row.2 with ⟨rfl, h0⟩ | ⟨g, cap, cur, rfl, _, hg, hnc, _, hcs, htake⟩
  · omega
  · obtain ⟨g0, g1⟩ := flat_get L k _ (some_getD (d := (0, 0)) hk)
    have hfl := flat_len L
    have get : ∀ j u, (flat L)[j]? = some u → w.cell? ⟨g, j, none⟩ = some u := fun j u hj => by
      have hlt := (List.getElem?_eq_some_iff.1 hj).1
      rw [cell_blk hg, ← hj, ← htake, List.getElem?_take, if_pos (by omega)]
      simp
    exact ⟨g, cap, rfl, lt_blk hg, get _ _ g0, get _ _ g1⟩
theorem RaAt.shape {w : World} {o : Nat} {v : Value} {L : List Ra.Row} (h : RaAt w o v L) : ∃ A c, v = .slice A L.length c := by
  rcases h.row.2 with ⟨rfl, h0⟩ | ⟨g, cap, cur, rfl, _⟩
  · exact ⟨none, 0, by rw [h0]⟩
  · exact ⟨_, _, rfl⟩
theorem enter_touch1 (args : Array Value) (w : World) : (callFunc 90 args).run Try.prog w = .ok (.enter 90 args) w :=
  enter_of Try.func90 (by kernel_rfl) rfl args w
set_option maxHeartbeats 800000 in
theorem touch1_any (b1 b2 o : Nat) (x : Int) (v : Value) (L : List Ra.Row) (w : World) (h : RaAt w o v L) (h1 : w.cell? ⟨b1, 0, none⟩ = some (.pointer (some ⟨o, 0, none⟩))) (h2 : w.cell? ⟨b2, 0, none⟩ = some (.int .i64 x)) (k : Nat) (hk : k < L.length) :
    Calls Try.prog 90 #[.int .i64 (k : Int), .pointer (some ⟨b1, 0, none⟩), .pointer (some ⟨b2, 0, none⟩)] w (Gives w (.bool (decide (x ≤ (L.getD k (0, 0)).2)))) := by
  obtain ⟨g, c, rfl, hg, c0, c1⟩ := h.cells hk
  have co : w.cell? ⟨o, 0, none⟩ = some (.slice (some ⟨g, 0, none⟩) L.length c) := by rw [cell_blk h.blk]; rfl
  obtain ⟨y, hy⟩ : ∃ y, y = (L.getD k (0, 0)).2 := ⟨_, rfl⟩
  rw [← hy]
  rw [← hy] at c1
  obtain ⟨n, hn⟩ : ∃ n, n = L.length := ⟨_, rfl⟩
  rw [← hn] at co hk
  have hki : (k : Int) < (n : Int) := by omega
  clear h hy hn
  go_enter Try.func90, Try.ntmps90
  go_wp2_with fail
  go_quiet (fail)
  go_wp2_with fail
  go_ret
  exact ⟨rfl, (Chg.refl _ _).drewN _⟩
theorem enter_touch2 (args : Array Value) (w : World) : (callFunc 91 args).run Try.prog w = .ok (.enter 91 args) w :=
  enter_of Try.func91 (by kernel_rfl) rfl args w
set_option maxHeartbeats 800000 in
theorem touch2_any (b1 b2 o : Nat) (x : Int) (v : Value) (L : List Ra.Row) (w : World) (h : RaAt w o v L) (h1 : w.cell? ⟨b1, 0, none⟩ = some (.pointer (some ⟨o, 0, none⟩))) (h2 : w.cell? ⟨b2, 0, none⟩ = some (.int .i64 x)) (k : Nat) (hk : k < L.length) :
    Calls Try.prog 91 #[.int .i64 (k : Int), .pointer (some ⟨b1, 0, none⟩), .pointer (some ⟨b2, 0, none⟩)] w (Gives w (.bool (decide (x < (L.getD k (0, 0)).1)))) := by
  obtain ⟨g, c, rfl, hg, c0, c1⟩ := h.cells hk
  have co : w.cell? ⟨o, 0, none⟩ = some (.slice (some ⟨g, 0, none⟩) L.length c) := by rw [cell_blk h.blk]; rfl
  obtain ⟨y, hy⟩ : ∃ y, y = (L.getD k (0, 0)).1 := ⟨_, rfl⟩
  rw [← hy]
  rw [← hy] at c0
  obtain ⟨n, hn⟩ : ∃ n, n = L.length := ⟨_, rfl⟩
  rw [← hn] at co hk
  have hki : (k : Int) < (n : Int) := by omega
  clear h hy hn
  go_enter Try.func91, Try.ntmps91
  go_wp2_with fail
  go_quiet (fail)
  go_wp2_with fail
  go_ret
  exact ⟨rfl, (Chg.refl _ _).drewN _⟩
theorem enter_at1 (args : Array Value) (w : World) : (callFunc 96 args).run Try.prog w = .ok (.enter 96 args) w :=
  enter_of Try.func96 (by kernel_rfl) rfl args w
set_option maxHeartbeats 800000 in
theorem at1_any (b1 b2 o : Nat) (x : Int) (v : Value) (L : List Ra.Row) (w : World) (h : RaAt w o v L) (h1 : w.cell? ⟨b1, 0, none⟩ = some (.pointer (some ⟨o, 0, none⟩))) (h2 : w.cell? ⟨b2, 0, none⟩ = some (.int .i64 x)) (k : Nat) (hk : k < L.length) :
    Calls Try.prog 96 #[.int .i64 (k : Int), .pointer (some ⟨b1, 0, none⟩), .pointer (some ⟨b2, 0, none⟩)] w (Gives w (.bool (decide (x < (L.getD k (0, 0)).2)))) := by
  obtain ⟨g, c, rfl, hg, c0, c1⟩ := h.cells hk
  have co : w.cell? ⟨o, 0, none⟩ = some (.slice (some ⟨g, 0, none⟩) L.length c) := by rw [cell_blk h.blk]; rfl
  obtain ⟨y, hy⟩ : ∃ y, y = (L.getD k (0, 0)).2 := ⟨_, rfl⟩
  rw [← hy]
  rw [← hy] at c1
  obtain ⟨n, hn⟩ : ∃ n, n = L.length := ⟨_, rfl⟩
  rw [← hn] at co hk
  have hki : (k : Int) < (n : Int) := by omega
  clear h hy hn
  go_enter Try.func96, Try.ntmps96
  go_wp2_with fail
  go_quiet (fail)
  go_wp2_with fail
  go_ret
  exact ⟨rfl, (Chg.refl _ _).drewN _⟩
theorem enter_gap1 (args : Array Value) (w : World) : (callFunc 78 args).run Try.prog w = .ok (.enter 78 args) w :=
  enter_of Try.func78 (by kernel_rfl) rfl args w
set_option maxHeartbeats 800000 in
theorem gap1_any (b1 b2 o : Nat) (x : Int) (v : Value) (L : List Ra.Row) (w : World) (h : RaAt w o v L) (h1 : w.cell? ⟨b1, 0, none⟩ = some (.pointer (some ⟨o, 0, none⟩))) (h2 : w.cell? ⟨b2, 0, none⟩ = some (.int .i64 x)) (k : Nat) (hk : k < L.length) :
    Calls Try.prog 78 #[.int .i64 (k : Int), .pointer (some ⟨b1, 0, none⟩), .pointer (some ⟨b2, 0, none⟩)] w (Gives w (.bool (decide (x < (L.getD k (0, 0)).1)))) := by
  obtain ⟨g, c, rfl, hg, c0, c1⟩ := h.cells hk
  have co : w.cell? ⟨o, 0, none⟩ = some (.slice (some ⟨g, 0, none⟩) L.length c) := by rw [cell_blk h.blk]; rfl
  obtain ⟨y, hy⟩ : ∃ y, y = (L.getD k (0, 0)).1 := ⟨_, rfl⟩
  rw [← hy]
  rw [← hy] at c0
  obtain ⟨n, hn⟩ : ∃ n, n = L.length := ⟨_, rfl⟩
  rw [← hn] at co hk
  have hki : (k : Int) < (n : Int) := by omega
  clear h hy hn
  go_enter Try.func78, Try.ntmps78
  go_wp2_with fail
  go_quiet (fail)
  go_wp2_with fail
  go_ret
  exact ⟨rfl, (Chg.refl _ _).drewN _⟩
/-- Ends within what there is. -/
theorem inside_any (f t : Int) (w : World) : Calls Try.prog 72 #[.int .i64 f, .int .i64 t] w (Gives w (.tuple #[.int .i64 (max f 0), .int .i64 (min t Ra.M)])) := by
  obtain ⟨a, ha⟩ : ∃ a, a = max f 0 := ⟨_, rfl⟩
  obtain ⟨b, hb⟩ : ∃ b, b = min t Ra.M := ⟨_, rfl⟩
  rw [← ha, ← hb]
  have HA := Lib.hid (show (0 ≤ f → a = f) ∧ (f ≤ 0 → a = 0) by rw [ha]; omega)
  have HB := Lib.hid (show (t ≤ 4611686018427387904 → b = t) ∧ (4611686018427387904 ≤ t → b = 4611686018427387904) by rw [hb]; unfold Ra.M; omega)
  clear ha hb
  go_enter Try.func72, Try.ntmps72
  go_wp2_with fail
  all_goals
    refine bodyPost_ret (v := .tuple #[.int .i64 a, .int .i64 b]) (by have h1 := HA.out; have h2 := HB.out; simp [results, Try.results72, go_sem]; omega) rfl ⟨rfl, Chg.refl _ _⟩
end Go.Proofs.Ytlkbfacdaelbfaa
