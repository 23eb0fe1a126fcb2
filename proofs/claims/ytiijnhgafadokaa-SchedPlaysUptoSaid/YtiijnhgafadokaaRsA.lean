/-
  The document's scheduler (sheaveref21): its object; New, at, moment, Window, Under.
-/
import Derived.Test.YtiijnhgafadokaaSchOnceA
namespace Go.Proofs.Ytiijnhgafadokaa
open Go.RowKit
set_option linter.unusedVariables false
variable {B : Nat}

/-- A flight of the document's; lv: the slice of its records. -/
structure RF where
  id : Int
  win : Int
  top : Int
  has : Bool
  lv : Value
  l : List Rec
structure RSch where
  pol : Int
  last : Int
  L : List RF
def fcell (f : RF) : List Value := [.int .i64 f.id, .int .i64 f.win, .int .i64 f.top, .bool f.has, f.lv]
def fcl (L : List RF) : List Value := L.flatMap fcell
theorem fcl_cons (f : RF) (L : List RF) : fcl (f :: L) = .int .i64 f.id :: .int .i64 f.win :: .int .i64 f.top :: .bool f.has :: f.lv :: fcl L := rfl
theorem fcl_len (L : List RF) : (fcl L).length = L.length * 5 := by
  induction L with
  | nil => rfl
  | cons r l ih => rw [fcl_cons]; simp [ih]; omega
theorem fcl_append (l m : List RF) : fcl (l ++ m) = fcl l ++ fcl m := by simp [fcl]
theorem fcl_get (L : List RF) : ∀ (k : Nat) (f : RF), L[k]? = some f → ∀ j u, (fcell f)[j]? = some u → (fcl L)[k * 5 + j]? = some u := by
  induction L with
  | nil => intro k f h; simp at h
  | cons x L ih =>
    intro k f h j u hj
    have hj5 : j < 5 := by have := (List.getElem?_eq_some_iff.1 hj).1; simpa [fcell] using this
    rw [show fcl (x :: L) = fcell x ++ fcl L from rfl]
    cases k with
    | zero =>
      simp at h
      subst h
      rw [List.getElem?_append_left (by simp [fcell]; omega)]
      simpa using hj
    | succ k =>
      rw [List.getElem?_append_right (by simp [fcell]; omega)]
      have := ih k f (by simpa using h) j u hj
      rw [show (k + 1) * 5 + j - (fcell x).length = k * 5 + j by simp [fcell]; omega]
      exact this
structure RfOk (w : World) (f : RF) : Prop where
  row : w.ownsRow 0 120 3 f.lv f.l.length (rcl f.l)
  recs : ∀ r ∈ f.l, RecOk w r
  len : f.l.length ≤ 100000
  win0 : 2 ≤ f.win ∧ f.win ≤ 32
  top0 : 0 ≤ f.top ∧ f.top ≤ 281474976710655
structure RSAt (B : Nat) (w : World) (y : Nat) (vL : Value) (R : RSch) : Prop where
  blk : w.heap[y]? = some (.cells #[.int .i64 R.pol, .int .i64 R.last, vL] 114 (0,0))
  row : w.ownsRow 0 117 5 vL R.L.length (fcl R.L)
  fl : ∀ f ∈ R.L, RfOk w f
  apart : ∀ (i j : Nat) f g r, R.L[i]? = some f → R.L[j]? = some g → f.lv.ownBlock = some r → g.lv.ownBlock = some r → i = j
  len : R.L.length ≤ 100000
  zy : B ≤ y
  zL : ∀ i, vL.ownBlock = some i → B ≤ i
  zl : ∀ f ∈ R.L, ∀ i, f.lv.ownBlock = some i → B ≤ i
def RSIs (B : Nat) (w : World) (y : Nat) (R : RSch) : Prop := ∃ vL, RSAt B w y vL R

/-! What may change: the document's own blocks, told by their kind. -/
def MineR (B : Nat) (w : World) (i : Nat) : Prop := B ≤ i ∧ ∃ cur t, w.heap[i]? = some (.cells cur t (0,0)) ∧ (t = 114 ∨ t = 117 ∨ t = 120)
def ChgR (B : Nat) (w w' : World) : Prop := Chg (MineR B w) w w'
theorem ChgR.refl (w : World) : ChgR B w w := Chg.refl _ _
theorem ChgR.trans {a b c : World} (h : ChgR B a b) (k : ChgR B b c) : ChgR B a c := by
  refine Chg.trans h k fun i hi hm => ?_
  refine Classical.byContradiction fun hn => ?_
  have e := Chg.block h i hi hn
  apply hn
  unfold MineR at hm ⊢
  rwa [e] at hm
theorem ChgR.of {S : Nat → Prop} {w w' : World} (h : Chg S w w') (hs : ∀ i, i < w.heap.size → S i → MineR B w i) : ChgR B w w' := Chg.mono h hs
theorem ChgR.none {w w' : World} (h : Chg Nowhere w w') : ChgR B w w' := ChgR.of h fun _ _ h => h.elim
theorem mineR_not {w : World} {i : Nat} {a : Array Value} {t : Nat} (h : w.heap[i]? = some (.cells a t (0,0))) (ht : t ≠ 114 ∧ t ≠ 117 ∧ t ≠ 120) : ¬ MineR B w i := by
  rintro ⟨-, a', t', h', hk⟩
  rw [h] at h'
  simp only [Option.some.injEq, Obj.cells.injEq] at h'
  obtain ⟨-, rfl, -⟩ := h'
  exact hk.elim ht.1 (fun hk => hk.elim ht.2.1 ht.2.2)
/-- Changes elsewhere leave the document's scheduler. -/
def Off (w : World) (S : Nat → Prop) : Prop := ∀ i cur t, w.heap[i]? = some (.cells cur t (0,0)) → (t = 114 ∨ t = 117 ∨ t = 120 ∨ t = 49) → ¬ S i
theorem recOk_keep {w w' : World} {r : Rec} (h : RecOk w r) {S : Nat → Prop} (hc : Chg S w w') (hn : ∀ i cur, w.heap[i]? = some (.cells cur 49 (0,0)) → ¬ S i) : RecOk w' r :=
  ⟨own_chg h.row hc fun i hi => by
    obtain ⟨cur, hh⟩ := own_blk h.row hi
    exact hn i cur hh, h.c0, h.t0, h.len⟩
theorem RfOk.keep {w w' : World} {f : RF} (h : RfOk w f) {S : Nat → Prop} (hc : Chg S w w') (hr : ∀ i, f.lv.ownBlock = some i → ¬ S i) (hn : ∀ i cur, w.heap[i]? = some (.cells cur 49 (0,0)) → ¬ S i) : RfOk w' f :=
  ⟨own_chg h.row hc hr, fun r hr => recOk_keep (h.recs r hr) hc hn, h.len, h.win0, h.top0⟩
theorem RSAt.keep {w w' : World} {y : Nat} {vL : Value} {R : RSch} (h : RSAt B w y vL R) {S : Nat → Prop} (hc : Chg S w w') (hS : Off w S) : RSAt B w' y vL R :=
  ⟨hc.keep h.blk (hS _ _ _ h.blk (.inl rfl)), own_chg h.row hc (fun i hi => by
    obtain ⟨cur, hh⟩ := own_blk h.row hi
    exact hS _ _ _ hh (.inr (.inl rfl))), fun f hf => (h.fl f hf).keep hc (fun i hi => by
      obtain ⟨cur, hh⟩ := own_blk (h.fl f hf).row hi
      exact hS _ _ _ hh (.inr (.inr (.inl rfl)))) (fun i cur hh => hS _ _ _ hh (.inr (.inr (.inr rfl)))), h.apart, h.len, h.zy, h.zL, h.zl⟩
theorem off_none (w : World) : Off w Nowhere := fun _ _ _ _ _ => not_nowhere _
theorem RSAt.idle {w w' : World} {y : Nat} {vL : Value} {R : RSch} (h : RSAt B w y vL R) (hc : Chg Nowhere w w') : RSAt B w' y vL R := h.keep hc (off_none w)
theorem RSIs.idle {w w' : World} {y : Nat} {R : RSch} (h : RSIs B w y R) (hc : Chg Nowhere w w') : RSIs B w' y R := by
  obtain ⟨vL, h⟩ := h
  exact ⟨vL, h.idle hc⟩
theorem off_zone (w : World) (Z : Nat → Prop) : Off w (fun i => Z i ∧ Mine w i) := fun i cur t hh ht hs => by
  refine cells_other hh ?_ hs.2
  rcases ht with rfl | rfl | rfl | rfl <;> decide
theorem RSIs.zone {w w' : World} {y : Nat} {R : RSch} (h : RSIs B w y R) {Z : Nat → Prop} (hc : ChgZ Z w w') : RSIs B w' y R := by
  obtain ⟨vL, h⟩ := h
  exact ⟨vL, h.keep hc (off_zone w Z)⟩

/-! New, moment. -/
def newR (p : Int) : RSch := ⟨if p = 1 then 1 else 0, -1, []⟩
def NewRTo (B : Nat) (w : World) (p : Int) (e : Ending) (w' : World) : Prop := ∃ y, e = .returned (.pointer (some ⟨y, 0, .none⟩)) ∧ RSIs B w' y (newR p) ∧ w.heap.size ≤ y ∧ Chg Nowhere w w'
set_option maxHeartbeats 400000 in
theorem newR_any (p : Int) (w : World) (hB : B ≤ w.heap.size) : Calls Try.prog 51 #[.int .i64 p] w (NewRTo B w p) := by
  have hf : ∀ (a : Int), RSIs B (w.alloc (.cells #[.int .i64 a, .int .i64 (-1), .slice .none 0 0] 114)) w.heap.size ⟨a, -1, []⟩ := fun a =>
    ⟨_, alloc_new _ _, World.ownsRow_nil _ _ _ _, (fun f hf => by cases hf), (fun i j f g r h => by simp at h), by simp, hB, (fun i hi => by cases hi), (fun f hf => by cases hf)⟩
  by_cases hp : p = 1
  · subst hp
    go_enter Try.func51, Try.ntmps51
    go_wp2_with fail
    go_ret
    exact ⟨_, rfl, hf 1, Nat.le_refl _, (Chg.refl _ _).alloc _⟩
  · have hd : (p != 1) = true := by simpa using hp
    have E := Lib.hid (show newR p = ⟨0, -1, []⟩ by unfold newR; rw [if_neg hp])
    clear hp
    go_enter Try.func51, Try.ntmps51
    go_wp2_with fail
    go_ret
    exact ⟨_, rfl, by rw [E.out]; exact hf 0, Nat.le_refl _, (Chg.refl _ _).alloc _⟩
set_option maxHeartbeats 400000 in
theorem momR_any (n : Int) (w : World) : Calls Try.prog 85 #[.int .i64 n] w fun e w' => e = .returned (.int .i64 (mom21 n)) ∧ w = w' := by
  have E := Lib.hid (show mom21 n = max 0 (min n 1099511627776) from rfl)
  go_enter Try.func85, Try.ntmps85
  rcases (by omega : n < 0 ∨ n = 0 ∨ 0 < n ∧ n < 1099511627776 ∨ n = 1099511627776 ∨ 1099511627776 < n) with h | rfl | ⟨h, h2⟩ | rfl | h
  · rw [show max 0 (min n 1099511627776) = 0 by omega] at E
    go_wp2_with fail
    go_ret
    rw [E.out]; exact ⟨rfl, rfl⟩
  · rw [show max (0 : Int) (min 0 1099511627776) = 0 by omega] at E
    go_wp2_with fail
    go_ret
    rw [E.out]; exact ⟨rfl, rfl⟩
  · rw [show max 0 (min n 1099511627776) = n by omega] at E
    go_wp2_with fail
    go_ret
    rw [E.out]; exact ⟨rfl, rfl⟩
  · rw [show max (0 : Int) (min 1099511627776 1099511627776) = 1099511627776 by omega] at E
    go_wp2_with fail
    go_ret
    rw [E.out]; exact ⟨rfl, rfl⟩
  · rw [show max 0 (min n 1099511627776) = 1099511627776 by omega] at E
    go_wp2_with fail
    go_ret
    rw [E.out]; exact ⟨rfl, rfl⟩
theorem momR_q (n : Int) (w : World) (k : Nat) : Calls Try.prog 85 #[.int .i64 n] (w.drewN k) fun e w'' => e = .returned (.int .i64 (mom21 n)) ∧ ∃ m, w'' = w.drewN m :=
  Calls.quiet_of_same ((momR_any n _).mono fun e w' hh => ⟨hh.1, hh.2.symm⟩)

/-! at. -/
def fnd : List RF → Int → Option Nat
  | [], _ => .none
  | f :: L, id => if f.id = id then some 0 else (fnd L id).map (· + 1)
theorem fnd_some : ∀ {L : List RF} {id : Int} {i : Nat}, fnd L id = some i → ∃ f, L[i]? = some f ∧ f.id = id
  | [], id, i, h => by cases h
  | f :: L, id, i, h => by
    rw [fnd] at h
    by_cases e : f.id = id
    · rw [if_pos e] at h
      cases h
      exact ⟨f, rfl, e⟩
    · rw [if_neg e] at h
      cases hf : fnd L id with
      | none => rw [hf] at h; cases h
      | some j =>
        rw [hf] at h
        cases h
        obtain ⟨g, h1, h2⟩ := fnd_some hf
        exact ⟨g, by simpa using h1, h2⟩
theorem fnd_none : ∀ {L : List RF} {id : Int}, (∀ f ∈ L, f.id ≠ id) → fnd L id = .none
  | [], id, h => rfl
  | f :: L, id, h => by
    rw [fnd, if_neg (h f (by simp)), fnd_none fun g hg => h g (by simp [hg])]
    rfl
theorem fnd_at : ∀ {L : List RF} {id : Int} {k : Nat} {f : RF}, L[k]? = some f → f.id = id → (∀ g ∈ L.take k, g.id ≠ id) → fnd L id = some k
  | [], id, k, f, h, _, _ => by simp at h
  | x :: L, id, 0, f, h, e, _ => by
    simp at h
    subst h
    rw [fnd, if_pos e]
  | x :: L, id, k + 1, f, h, e, hn => by
    rw [fnd, if_neg (hn x (by simp)), fnd_at (L := L) (k := k) (by simpa using h) e fun g hg => hn g (by simp [hg])]
    rfl
def atI (L : List RF) (id : Int) : Int := match fnd L id with
  | some i => (i : Int)
  | .none => -1
/-- The cells of one flight. -/
theorem RSAt.cells {w : World} {y : Nat} {vL : Value} {R : RSch} (h : RSAt B w y vL R) {k : Nat} {f : RF} (hk : R.L[k]? = some f) :
    ∃ g o c, vL = .slice (some ⟨g, o, .none⟩) R.L.length c ∧ g < w.heap.size ∧ w.cell? ⟨g, o + k * 5, .none⟩ = some (.int .i64 f.id) ∧ w.cell? ⟨g, o + k * 5 + 1, .none⟩ = some (.int .i64 f.win) ∧ w.cell? ⟨g, o + k * 5 + 2, .none⟩ = some (.int .i64 f.top) ∧
      w.cell? ⟨g, o + k * 5 + 3, .none⟩ = some (.bool f.has) ∧ w.cell? ⟨g, o + k * 5 + 4, .none⟩ = some f.lv ∧ (∃ cur, w.heap[g]? = some (.cells cur 117 (0,0))) := by
  have hl := (List.getElem?_eq_some_iff.1 hk).1
  have hfl := fcl_len R.L
  rcases h.row.2 with ⟨-, h0⟩ | ⟨g, cap, cur, hv, hg, hh, hn, hcap, hsz, hxs⟩
  · omega
  · have key : ∀ j u, (fcell f)[j]? = some u → w.cell? ⟨g, 0 + (k * 5 + j), .none⟩ = some u := fun j u hj => by
      have h5 : j < 5 := by have := (List.getElem?_eq_some_iff.1 hj).1; simpa [fcell] using this
      rw [cell_blk hh, Nat.zero_add, ← fcl_get R.L k f hk j u hj, ← hxs, List.getElem?_take_of_lt (by omega), Array.getElem?_toList]
    exact ⟨g, 0, cap, hv, lt_blk hh, key 0 _ rfl, key 1 _ rfl, key 2 _ rfl, key 3 _ rfl, key 4 _ rfl, ⟨cur, hh⟩⟩
theorem RSAt.slice {w : World} {y : Nat} {vL : Value} {R : RSch} (h : RSAt B w y vL R) : ∃ A c, vL = .slice A R.L.length c := by
  obtain ⟨-, A, c, e, -, -⟩ := Rd.of_owns h.row
  exact ⟨A, c, e⟩
set_option maxHeartbeats 400000 in
theorem at_any (w : World) (y : Nat) (R : RSch) (h : RSIs B w y R) (id : Int) :
    Calls Try.prog 83 #[.pointer (some ⟨y, 0, .none⟩), .int .i64 id] w fun e w' => e = .returned (.int .i64 (atI R.L id)) ∧ w = w' := by
  obtain ⟨vL, h⟩ := h
  have H := Lib.hid h
  obtain ⟨A, c, rfl⟩ := h.slice
  have c2 : w.cell? ⟨y, 2, .none⟩ = some (.slice A R.L.length c) := by rw [cell_blk h.blk]; rfl
  have hl := h.len
  clear h
  go_enter Try.func83, Try.ntmps83
  go_wp2_with fail
  go_loopw [5] (fun i wr => ∃ (k : Nat), k ≤ R.L.length ∧ i = .int .i64 k ∧ wr = w ∧ Hid (∀ f ∈ R.L.take k, f.id ≠ id)) (fun i _ => 100000 - (intOf i).toNat)
  case atStart => exact ⟨0, by omega, rfl, rfl, Lib.hid (by simp)⟩
  case round =>
    obtain ⟨k, hk, rfl, rfl, HN⟩ := hrel
    by_cases hk2 : k < R.L.length
    · obtain ⟨f, hf⟩ : ∃ f, R.L[k]? = some f := ⟨_, List.getElem?_eq_getElem hk2⟩
      obtain ⟨g, o, c', e, hg, d0, -⟩ := H.out.cells hf
      cases e
      by_cases hid : f.id = id
      · have E := Lib.hid (show atI R.L id = (k : Int) by unfold atI; rw [fnd_at hf hid HN.out])
        rw [hid] at d0
        clear hf hid
        go_wp2_with fail
        go_ret
        rw [E.out]
        exact ⟨rfl, rfl⟩
      · have hb : (f.id == id) = false := by simpa using hid
        have E := Lib.hid (show ∀ f ∈ R.L.take (k + 1), f.id ≠ id from fun q hq => by
          rw [List.take_add_one, hf] at hq
          simp at hq
          rcases hq with hq | rfl
          · exact HN.out q hq
          · exact hid)
        clear hf hid
        go_wp2_with fail
        go_roundw
        case rel => exact ⟨k + 1, by omega, by go_num, by first | rfl | trivial, E⟩
        case measure => simp [intOf]; omega
    · obtain rfl : k = R.L.length := by omega
      have E := Lib.hid (show atI R.L id = -1 by unfold atI; rw [fnd_none fun f hf => HN.out f (by rw [List.take_length]; exact hf)])
      go_wp2_with fail
      go_ret
      rw [E.out]
      exact ⟨rfl, rfl⟩

/-! Window, Under. -/
def underR (R : RSch) (id : Int) : Nat := match fnd R.L id with
  | some i => match R.L[i]? with
    | some f => f.l.length
    | .none => 0
  | .none => 0
def windowR (R : RSch) (id : Int) : Int := match fnd R.L id with
  | some i => match R.L[i]? with
    | some f => f.win
    | .none => 0
  | .none => 0
set_option maxHeartbeats 400000 in
theorem underR_any (w : World) (y : Nat) (R : RSch) (h : RSIs B w y R) (id : Int) :
    Calls Try.prog 61 #[.pointer (some ⟨y, 0, .none⟩), .int .i64 id] w fun e w' => e = .returned (.int .i64 (underR R id)) ∧ w = w' := by
  have HI := Lib.hid h
  obtain ⟨vL, h⟩ := h
  have H := Lib.hid h
  obtain ⟨A, c, rfl⟩ := h.slice
  have c2 : w.cell? ⟨y, 2, .none⟩ = some (.slice A R.L.length c) := by rw [cell_blk h.blk]; rfl
  clear h
  cases hf : fnd R.L id with
  | none =>
    have E := Lib.hid (show underR R id = 0 by unfold underR; rw [hf])
    have EA := Lib.hid (show atI R.L id = -1 by unfold atI; rw [hf])
    clear hf
    go_enter Try.func61, Try.ntmps61
    go_wp2_with fail
    refine (at_any w y R HI.out id).mono ?_
    rw [EA.out]
    rintro e w' ⟨rfl, rfl⟩
    go_wp2_with fail
    go_ret
    rw [E.out]
    exact ⟨rfl, rfl⟩
  | some i =>
    obtain ⟨f, hi, -⟩ := fnd_some hf
    have hil := (List.getElem?_eq_some_iff.1 hi).1
    have E := Lib.hid (show underR R id = f.l.length by unfold underR; rw [hf]; simp only; rw [hi])
    have EA := Lib.hid (show atI R.L id = (i : Int) by unfold atI; rw [hf])
    obtain ⟨g, o, c', e, hg, d0, d1, d2, d3, d4, -⟩ := H.out.cells hi
    cases e
    obtain ⟨-, Al, cl, hv, -, -⟩ := Rd.of_owns (H.out.fl f (List.mem_of_getElem? hi)).row
    rw [hv] at d4
    clear hf hi hv
    go_enter Try.func61, Try.ntmps61
    go_wp2_with fail
    refine (at_any w y R HI.out id).mono ?_
    rw [EA.out]
    rintro e w' ⟨rfl, rfl⟩
    go_wp2_with fail
    go_ret
    rw [E.out]
    exact ⟨rfl, rfl⟩
set_option maxHeartbeats 400000 in
theorem windowR_any (w : World) (y : Nat) (R : RSch) (h : RSIs B w y R) (id : Int) :
    Calls Try.prog 60 #[.pointer (some ⟨y, 0, .none⟩), .int .i64 id] w fun e w' => e = .returned (.int .i64 (windowR R id)) ∧ w = w' := by
  have HI := Lib.hid h
  obtain ⟨vL, h⟩ := h
  have H := Lib.hid h
  obtain ⟨A, c, rfl⟩ := h.slice
  have c2 : w.cell? ⟨y, 2, .none⟩ = some (.slice A R.L.length c) := by rw [cell_blk h.blk]; rfl
  clear h
  cases hf : fnd R.L id with
  | none =>
    have E := Lib.hid (show windowR R id = 0 by unfold windowR; rw [hf])
    have EA := Lib.hid (show atI R.L id = -1 by unfold atI; rw [hf])
    clear hf
    go_enter Try.func60, Try.ntmps60
    go_wp2_with fail
    refine (at_any w y R HI.out id).mono ?_
    rw [EA.out]
    rintro e w' ⟨rfl, rfl⟩
    go_wp2_with fail
    go_ret
    rw [E.out]
    exact ⟨rfl, rfl⟩
  | some i =>
    obtain ⟨f, hi, -⟩ := fnd_some hf
    have hil := (List.getElem?_eq_some_iff.1 hi).1
    have E := Lib.hid (show windowR R id = f.win by unfold windowR; rw [hf]; simp only; rw [hi])
    have EA := Lib.hid (show atI R.L id = (i : Int) by unfold atI; rw [hf])
    obtain ⟨g, o, c', e, hg, d0, d1, d2, d3, d4, -⟩ := H.out.cells hi
    cases e
    clear hf hi
    go_enter Try.func60, Try.ntmps60
    go_wp2_with fail
    refine (at_any w y R HI.out id).mono ?_
    rw [EA.out]
    rintro e w' ⟨rfl, rfl⟩
    go_wp2_with fail
    go_ret
    rw [E.out]
    exact ⟨rfl, rfl⟩
end Go.Proofs.Ytiijnhgafadokaa
