/-
  The calls of the table of paths (layer 20): what each answers, and what the table's block holds behind it.
-/
import Derived.Test.YtiijnhgafadokaaProg
import Derived.Test.YtiijnhgafadokaaKit
import Derived.Test.YtiijnhgafadokaaPathsPure
namespace Go.Proofs.Ytiijnhgafadokaa
open Go.RowKit Paths

structure TabArr (arr : Array Value) (T : Tab) : Prop where
  size : arr.size = 3072
  st : ∀ i, i < 256 → arr[i * 12]? = some (.int .i64 (T i).st)
  rtt : ∀ i, i < 256 → arr[i * 12 + 1]? = some (.int .i64 (T i).rtt)
  tries : ∀ i, i < 256 → arr[i * 12 + 2]? = some (.int .i64 (T i).tries)
  next : ∀ i, i < 256 → arr[i * 12 + 3]? = some (.int .i64 (T i).next)
  tok : ∀ i k, i < 256 → k < 8 → arr[i * 12 + 4 + k]? = (T i).tok[k]?.map (.int .u8)

/-- Block b holds the table T. -/
structure TabAt (w : World) (b : Nat) (T : Tab) : Prop where
  arr : ∃ arr, w.heap[b]? = some (.cells arr 84 (0,0)) ∧ TabArr arr T
  ok : Ok T

theorem TabAt.mk' {w : World} {b : Nat} {T : Tab} {arr : Array Value} (h : w.heap[b]? = some (.cells arr 84 (0,0))) (hT : TabArr arr T) (hk : Ok T) : TabAt w b T := ⟨⟨arr, h, hT⟩, hk⟩
theorem TabAt.keep {w w' : World} {b : Nat} {T : Tab} (h : TabAt w b T) (hw : w'.heap[b]? = w.heap[b]?) : TabAt w' b T := by
  obtain ⟨⟨arr, ha, hT⟩, hk⟩ := h
  exact ⟨⟨arr, hw.trans ha, hT⟩, hk⟩
theorem TabAt.lt {w : World} {b : Nat} {T : Tab} (h : TabAt w b T) : b < w.heap.size := by
  obtain ⟨⟨arr, ha, hT⟩, hk⟩ := h
  exact lt_blk ha
theorem TabAt.chg {w w' : World} {b : Nat} {T : Tab} {S : Nat → Prop} (h : TabAt w b T) (hc : Chg S w w') (hn : ¬ S b) : TabAt w' b T :=
  h.keep (hc.block b h.lt hn)
theorem TabAt.fz {w : World} {b : Nat} {T : Tab} (h : TabAt w b T) (o : Nat) : w.frozen? ⟨b, o, .none⟩ = false := by
  obtain ⟨⟨arr, ha, hT⟩, hk⟩ := h
  exact frozen_blk ha
theorem TabAt.st {w : World} {b : Nat} {T : Tab} (h : TabAt w b T) {i : Nat} (hi : i < 256) : w.cell? ⟨b, i * 12, .none⟩ = some (.int .i64 (T i).st) := by
  obtain ⟨⟨arr, ha, hT⟩, hk⟩ := h
  rw [cell_blk ha, hT.st i hi]
theorem TabAt.rtt {w : World} {b : Nat} {T : Tab} (h : TabAt w b T) {i : Nat} (hi : i < 256) : w.cell? ⟨b, i * 12 + 1, .none⟩ = some (.int .i64 (T i).rtt) := by
  obtain ⟨⟨arr, ha, hT⟩, hk⟩ := h
  rw [cell_blk ha, hT.rtt i hi]
theorem TabAt.tries {w : World} {b : Nat} {T : Tab} (h : TabAt w b T) {i : Nat} (hi : i < 256) : w.cell? ⟨b, i * 12 + 2, .none⟩ = some (.int .i64 (T i).tries) := by
  obtain ⟨⟨arr, ha, hT⟩, hk⟩ := h
  rw [cell_blk ha, hT.tries i hi]
theorem TabAt.next {w : World} {b : Nat} {T : Tab} (h : TabAt w b T) {i : Nat} (hi : i < 256) : w.cell? ⟨b, i * 12 + 3, .none⟩ = some (.int .i64 (T i).next) := by
  obtain ⟨⟨arr, ha, hT⟩, hk⟩ := h
  rw [cell_blk ha, hT.next i hi]
theorem TabAt.tok {w : World} {b : Nat} {T : Tab} (h : TabAt w b T) {i k : Nat} (hi : i < 256) (hk' : k < 8) : w.cell? ⟨b, i * 12 + 4 + k, .none⟩ = (T i).tok[k]?.map (.int .u8) := by
  obtain ⟨⟨arr, ha, hT⟩, hk⟩ := h
  rw [cell_blk ha, hT.tok i k hi hk']

theorem upd_at (T : Tab) (i : Nat) (p : Path) : upd T i p i = p := by simp [upd]
theorem upd_ne (T : Tab) {i j : Nat} (p : Path) (h : j ≠ i) : upd T i p j = T j := by simp [upd, h]

/-- One field of one path is stored. -/
theorem TabArr.set {arr : Array Value} {T : Tab} (h : TabArr arr T) {i : Nat} (hi : i < 256) (f : Nat) (hf : f < 4) (x : Int) (p : Path)
    (h0 : p.st = if f = 0 then x else (T i).st) (h1 : p.rtt = if f = 1 then x else (T i).rtt) (h2 : p.tries = if f = 2 then x else (T i).tries)
    (h3 : p.next = if f = 3 then x else (T i).next) (h4 : p.tok = (T i).tok) : TabArr (arr.setIfInBounds (i * 12 + f) (.int .i64 x)) (upd T i p) := by
  obtain ⟨hs, a, b, c, d, e⟩ := h
  refine ⟨by simpa using hs, ?_, ?_, ?_, ?_, ?_⟩
  · intro j hj
    rw [Array.getElem?_setIfInBounds]
    by_cases hij : j = i
    · subst hij
      rw [upd_at, h0, a j hj]
      (repeat' split) <;> first | rfl | omega | (exfalso; omega)
    · rw [upd_ne _ _ hij, if_neg (by omega)]; exact a j hj
  · intro j hj
    rw [Array.getElem?_setIfInBounds]
    by_cases hij : j = i
    · subst hij
      rw [upd_at, h1, b j hj]
      (repeat' split) <;> first | rfl | omega | (exfalso; omega)
    · rw [upd_ne _ _ hij, if_neg (by omega)]; exact b j hj
  · intro j hj
    rw [Array.getElem?_setIfInBounds]
    by_cases hij : j = i
    · subst hij
      rw [upd_at, h2, c j hj]
      (repeat' split) <;> first | rfl | omega | (exfalso; omega)
    · rw [upd_ne _ _ hij, if_neg (by omega)]; exact c j hj
  · intro j hj
    rw [Array.getElem?_setIfInBounds]
    by_cases hij : j = i
    · subst hij
      rw [upd_at, h3, d j hj]
      (repeat' split) <;> first | rfl | omega | (exfalso; omega)
    · rw [upd_ne _ _ hij, if_neg (by omega)]; exact d j hj
  · intro j k hj hk
    rw [Array.getElem?_setIfInBounds, if_neg (by omega), e j k hj hk]
    by_cases hij : j = i
    · subst hij; rw [upd_at, h4]
    · rw [upd_ne _ _ hij]

theorem TabAt.set {w : World} {b : Nat} {T : Tab} (h : TabAt w b T) {i : Nat} (hi : i < 256) (f : Nat) (hf : f < 4) (x : Int) (p : Path) (hp : PathOk p)
    (h0 : p.st = if f = 0 then x else (T i).st) (h1 : p.rtt = if f = 1 then x else (T i).rtt) (h2 : p.tries = if f = 2 then x else (T i).tries)
    (h3 : p.next = if f = 3 then x else (T i).next) (h4 : p.tok = (T i).tok) : TabAt (w.setCell ⟨b, i * 12 + f, .none⟩ (.int .i64 x)) b (upd T i p) := by
  obtain ⟨⟨arr, ha, hT⟩, hk⟩ := h
  exact ⟨⟨_, set_blk _ ha, hT.set hi f hf x p h0 h1 h2 h3 h4⟩, hk.upd i hp⟩

def zeroPath : Array Value := #[.int .i64 0, .int .i64 0, .int .i64 0, .int .i64 0, .int .u8 0, .int .u8 0, .int .u8 0, .int .u8 0, .int .u8 0, .int .u8 0, .int .u8 0, .int .u8 0]
theorem ret_int {k : IntKind} {a b : Int} (h : a = b) : Ending.returned (.int k a) = .returned (.int k b) := by rw [h]

set_option maxHeartbeats 400000 in
theorem moment_any (n : Int) (w : World) :
    Calls Try.prog 65 #[.int .i64 n] w fun e w' => e = .returned (.int .i64 (mom n)) ∧ w = w' := by
  go_enter Try.func65, Try.ntmps65
  go_wp2
  all_goals
    go_ret
    exact ⟨ret_int (by unfold mom; (repeat' split) <;> (try split at *) <;> omega), rfl⟩

set_option maxHeartbeats 400000 in
theorem at_in (b : Nat) (id : Int) (w : World) (h0 : 0 ≤ id) (h1 : id < 256) :
    Calls Try.prog 66 #[.pointer (some ⟨b, 0, .none⟩), .int .i64 id] w fun e w' => e = .returned (.pointer (some ⟨b, id.toNat * 12, .none⟩)) ∧ w = w' := by
  have hlo : decide (id < 0) = false := by simp; omega
  have hhi : decide (256 ≤ id) = false := by simp; omega
  go_enter Try.func66, Try.ntmps66
  go_wp2
  go_ret
  exact ⟨rfl, rfl⟩

/-- The cells of a new zero path. -/
theorem zp (w : World) (o : Nat) : (w.alloc (.cells zeroPath 81)).cell? ⟨w.heap.size, o, .none⟩ = zeroPath[o]? := cell_blk (alloc_new w _)

def OutTo (w : World) (e : Ending) (w' : World) : Prop :=
  ∃ z, e = .returned (.pointer (some ⟨z, 0, .none⟩)) ∧ w'.cell? ⟨z, 0, .none⟩ = some (.int .i64 0) ∧ w'.cell? ⟨z, 1, .none⟩ = some (.int .i64 0) ∧ Chg Nowhere w w'

set_option maxHeartbeats 400000 in
theorem at_out (b : Nat) (id : Int) (w : World) (h : id < 0 ∨ 256 ≤ id) :
    Calls Try.prog 66 #[.pointer (some ⟨b, 0, .none⟩), .int .i64 id] w (OutTo w) := by
  have z0 := Lib.hid ((zp w 0).trans (show zeroPath[0]? = some (.int .i64 0) from rfl))
  have z1 := Lib.hid ((zp w 1).trans (show zeroPath[1]? = some (.int .i64 0) from rfl))
  rcases h with h | h
  · have hlo : decide (id < 0) = true := by simp; omega
    go_enter Try.func66, Try.ntmps66
    go_wp2
    go_ret
    exact ⟨w.heap.size, rfl, z0.out, z1.out, (Chg.refl _ _).alloc _⟩
  · have hlo : decide (id < 0) = false := by simp; omega
    have hhi : decide (256 ≤ id) = true := by simp; omega
    go_enter Try.func66, Try.ntmps66
    go_wp2
    go_ret
    exact ⟨w.heap.size, rfl, z0.out, z1.out, (Chg.refl _ _).alloc _⟩
end Go.Proofs.Ytiijnhgafadokaa
