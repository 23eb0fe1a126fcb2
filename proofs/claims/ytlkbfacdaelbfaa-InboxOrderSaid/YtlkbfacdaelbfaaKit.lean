/-
  Helper lemmas on worlds: which blocks a call has changed, and what the cells of a block hold. No program in sight.
-/
import Derived.WalkKit
import Derived.ProofKit
import Derived.OpenShut
import Derived.Below
import Derived.BigQuiet
import Derived.Deep.QuietTactic
import Derived.Lib.Hide
import Derived.ChangeKeysEq
namespace Go.Proofs.Ytlkbfacdaelbfaa
open Go.RowKit

theorem cell_blk {w : World} {b o : Nat} {arr : Array Value} {t : Nat} (h : w.heap[b]? = some (.cells arr t (0,0))) : w.cell? ⟨b, o, none⟩ = arr[o]? := by
  simp [World.cell?, h]
theorem frozen_blk {w : World} {b o : Nat} {arr : Array Value} {t : Nat} (h : w.heap[b]? = some (.cells arr t (0,0))) : w.frozen? ⟨b, o, none⟩ = false := by
  simp [World.frozen?, h]
theorem lt_blk {w : World} {b : Nat} {o : Obj} (h : w.heap[b]? = some o) : b < w.heap.size :=
  (Array.getElem?_eq_some_iff.1 h).1
theorem set_blk {w : World} {b o : Nat} {arr : Array Value} {t : Nat} (v : Value) (h : w.heap[b]? = some (.cells arr t (0,0))) :
    (w.setCell ⟨b, o, none⟩ v).heap[b]? = some (.cells (arr.setIfInBounds o v) t (0,0)) := by
  simp [World.setCell, Array.getElem?_modify, h]
theorem set_other {w : World} {b : Nat} {a : Addr} (v : Value) (h : b ≠ a.block) :
    (w.setCell a v).heap[b]? = w.heap[b]? := Below.heap_setCell w a v b h
theorem alloc_new (w : World) (o : Obj) : (w.alloc o).heap[w.heap.size]? = some o := by
  show (w.heap.push o)[w.heap.size]? = _
  simp
theorem alloc_old {w : World} {b : Nat} {o o' : Obj} (h : w.heap[b]? = some o') : (w.alloc o).heap[b]? = some o' := by
  rw [Below.heap_alloc w o b (lt_blk h), h]

/-- Of the blocks that were there only those of S may have changed. -/
structure Chg (S : Nat → Prop) (w w' : World) : Prop where
  os : w'.os = w.os
  tape : w'.tape = w.tape
  output : w'.output = w.output
  size : w.heap.size ≤ w'.heap.size
  block : ∀ k, k < w.heap.size → ¬ S k → w'.heap[k]? = w.heap[k]?

def Nowhere : Nat → Prop := fun _ => False
def At (b : Nat) : Nat → Prop := fun k => k = b

theorem Chg.refl (S : Nat → Prop) (w : World) : Chg S w w := ⟨rfl, rfl, rfl, Nat.le_refl _, fun _ _ _ => rfl⟩
theorem Chg.trans {S S' : Nat → Prop} {a b c : World} (h : Chg S a b) (k : Chg S' b c) (hs : ∀ i, i < a.heap.size → S' i → S i) : Chg S a c :=
  ⟨k.os.trans h.os, k.tape.trans h.tape, k.output.trans h.output, Nat.le_trans h.size k.size,
    fun i hi hn => (k.block i (Nat.lt_of_lt_of_le hi h.size) (fun hc => hn (hs i hi hc))).trans (h.block i hi hn)⟩
theorem Chg.trans' {S : Nat → Prop} {a b c : World} (h : Chg S a b) (k : Chg S b c) : Chg S a c := h.trans k fun _ _ h => h
theorem Chg.then_none {S : Nat → Prop} {a b c : World} (h : Chg S a b) (k : Chg Nowhere b c) : Chg S a c := h.trans k fun _ _ h => h.elim
theorem Chg.none_then {S : Nat → Prop} {a b c : World} (h : Chg Nowhere a b) (k : Chg S b c) : Chg S a c :=
  ⟨k.os.trans h.os, k.tape.trans h.tape, k.output.trans h.output, Nat.le_trans h.size k.size,
    fun i hi hn => (k.block i (Nat.lt_of_lt_of_le hi h.size) hn).trans (h.block i hi (fun h => h.elim))⟩
theorem Chg.mono {S S' : Nat → Prop} {a b : World} (h : Chg S a b) (hs : ∀ i, i < a.heap.size → S i → S' i) : Chg S' a b :=
  ⟨h.os, h.tape, h.output, h.size, fun i hi hn => h.block i hi fun hc => hn (hs i hi hc)⟩
theorem Chg.drew {S : Nat → Prop} {a w : World} (h : Chg S a w) : Chg S a w.drew := ⟨h.os, h.tape, h.output, h.size, h.block⟩
theorem Chg.drewN {S : Nat → Prop} {a w : World} (h : Chg S a w) (n : Nat) : Chg S a (w.drewN n) := ⟨h.os, h.tape, h.output, h.size, h.block⟩
theorem Chg.alloc {S : Nat → Prop} {a w : World} (h : Chg S a w) (o : Obj) : Chg S a (w.alloc o) :=
  h.trans (S' := Nowhere) ⟨rfl, rfl, rfl, by simp, fun k hk _ => Below.heap_alloc _ _ _ hk⟩ fun _ _ h => h.elim
theorem Chg.setCell {S : Nat → Prop} {a w : World} (h : Chg S a w) {p : Addr} (hp : S p.block ∨ a.heap.size ≤ p.block) (v : Value) : Chg S a (w.setCell p v) :=
  ⟨h.os, h.tape, h.output, by simpa [World.setCell] using h.size, fun k hk hn => by
    rw [set_other _ (by rintro rfl; rcases hp with hp | hp; exact hn hp; omega)]; exact h.block k hk hn⟩
theorem At.self (b : Nat) : At b b := rfl
theorem Chg.put {S : Nat → Prop} {a w : World} (h : Chg S a w) {b : Nat} (hb : S b ∨ a.heap.size ≤ b) {o : Nat} {v : Value} : Chg S a (w.setCell ⟨b, o, none⟩ v) := h.setCell (p := ⟨b, o, none⟩) hb v
theorem Chg.putAt {b : Nat} {a w : World} (h : Chg (At b) a w) {o : Nat} {v : Value} : Chg (At b) a (w.setCell ⟨b, o, none⟩ v) := h.setCell (p := ⟨b, o, none⟩) (.inl (At.self b)) v
theorem not_nowhere (b : Nat) : ¬ Nowhere b := fun h => h
theorem Chg.grown {S : Nat → Prop} {a w w' : World} {row : Option Nat} (h : Chg S a w) (hg : w.grownBy w' row) (hr : ∀ k, row = some k → a.heap.size ≤ k ∨ S k) : Chg S a w' :=
  h.trans (S' := fun k => row = some k) ⟨hg.os, hg.tape, hg.output, hg.size, fun k hk hn => hg.block k hk (fun e => hn e.symm)⟩
    (fun i hi e => by rcases hr i e with h | h; omega; exact h)
theorem Chg.of_below {S : Nat → Prop} {w w' : World} (h : Below w.heap.size w w') : Chg S w w' := ⟨h.os, h.tape, h.output, h.size, fun k hk _ => h.block k hk⟩
theorem Chg.below {w w' : World} (h : Chg Nowhere w w') : Below w.heap.size w w' := ⟨h.os, h.tape, h.output, h.size, fun k hk => h.block k hk (fun h => h)⟩
theorem Chg.keep {S : Nat → Prop} {w w' : World} (h : Chg S w w') {b : Nat} {o : Obj} (hb : w.heap[b]? = some o) (hn : ¬ S b) : w'.heap[b]? = some o :=
  (h.block b (lt_blk hb) hn).trans hb
theorem Chg.same {w w' : World} (h : Chg Nowhere w w') {b : Nat} {o : Obj} (hb : w.heap[b]? = some o) : w'.heap[b]? = some o := h.keep hb (fun h => h)
theorem Chg.cell {S : Nat → Prop} {w w' : World} (h : Chg S w w') {p : Addr} (hp : p.block < w.heap.size) (hn : ¬ S p.block) : w'.cell? p = w.cell? p := World.cell?_of_block (w := w) (h.block p.block hp hn)
theorem Chg.frozen {S : Nat → Prop} {w w' : World} (h : Chg S w w') {p : Addr} (hp : p.block < w.heap.size) (hn : ¬ S p.block) : w'.frozen? p = w.frozen? p := World.frozen?_of_block (w := w) (h.block p.block hp hn)

/-- The value v is a slice of n elements, each of so many cells, and xs are its cells. -/
def Rd (w : World) (v : Value) (size n : Nat) (xs : List Value) : Prop :=
  xs.length = n * size ∧ ∃ A c, v = .slice A n c ∧ n ≤ c ∧
    (0 < n → ∃ g o, A = some ⟨g, o, none⟩ ∧ g < w.heap.size ∧ ∀ j, j < xs.length → w.cell? ⟨g, o + j, none⟩ = xs[j]?)
theorem Rd.mono {w w' : World} {v : Value} {size n : Nat} {xs : List Value} (h : Rd w v size n xs) {S : Nat → Prop} (hc : Chg S w w')
    (hn : ∀ g o c, v = .slice (some ⟨g, o, none⟩) n c → ¬ S g) : Rd w' v size n xs := by
  obtain ⟨h1, A, c, hv, hnc, h2⟩ := h
  refine ⟨h1, A, c, hv, hnc, fun h0 => ?_⟩
  obtain ⟨g, o, rfl, hg, hcell⟩ := h2 h0
  exact ⟨g, o, rfl, Nat.lt_of_lt_of_le hg hc.size, fun j hj => (hc.cell (p := ⟨g, o + j, none⟩) hg (hn g o c hv)).trans (hcell j hj)⟩
theorem Rd.same {w w' : World} {v : Value} {size n : Nat} {xs : List Value} (h : Rd w v size n xs) (hc : Chg Nowhere w w') : Rd w' v size n xs :=
  h.mono hc fun _ _ _ _ => not_nowhere _
theorem Rd.nil (w : World) (size : Nat) : Rd w (.slice none 0 0) size 0 [] := ⟨by simp, none, 0, rfl, Nat.le_refl _, fun h => absurd h (by omega)⟩
theorem Rd.of_owns {w : World} {base : Nat} {e : TypeId} {size : Nat} {v : Value} {n : Nat} {xs : List Value} (h : w.ownsRow base e size v n xs) : Rd w v size n xs := by
  refine ⟨h.1, ?_⟩
  rcases h.2 with ⟨rfl, rfl⟩ | ⟨g, cap, cur, hv, hg, hh, hn, hcap, hsz, hx⟩
  · exact ⟨none, 0, rfl, Nat.le_refl _, fun h => absurd h (by omega)⟩
  · refine ⟨some ⟨g, 0, none⟩, cap, hv, hn, fun _ => ⟨g, 0, rfl, lt_blk hh, fun j hj => ?_⟩⟩
    rw [cell_blk hh, Nat.zero_add, ← hx, List.getElem?_take_of_lt (by rw [← h.1]; exact hj), Array.getElem?_toList]
theorem Rd.lit (w : World) (size n : Nat) (xs : List Value) (t : TypeId) (h : xs.length = n * size) : Rd (w.alloc (.cells xs.toArray t)) (.slice (some ⟨w.heap.size, 0, none⟩) n n) size n xs :=
  ⟨h, _, n, rfl, Nat.le_refl _, fun _ => ⟨w.heap.size, 0, rfl, by simp, fun j _ => by rw [cell_blk (alloc_new w _)]; simp⟩⟩
theorem new1 (w : World) (x : Value) (t : TypeId) : ∀ j u, [x][j]? = some u → (w.alloc (.cells #[x] t)).cell? ((⟨w.heap.size, 0, none⟩ : Addr).add j) = some u := by
  intro j u h
  match j, h with
  | 0, h =>
    have e : (⟨w.heap.size, 0, none⟩ : Addr).add 0 = ⟨w.heap.size, 0, none⟩ := rfl
    rw [e, cell_blk (alloc_new w (.cells #[x] t))]; simpa using h
theorem new1' (w : World) (x : Value) (t : TypeId) (B : Nat) (hB : w.heap.size = B) : ∀ j u, [x][j]? = some u → (w.alloc (.cells #[x] t)).cell? ((⟨B, 0, none⟩ : Addr).add j) = some u := by
  subst hB; exact new1 w x t
theorem set_size (w : World) (a : Addr) (v : Value) : (w.setCell a v).heap.size = w.heap.size := by simp [World.setCell]
theorem rep_get (l : List Value) : ∀ (n i j : Nat), j < l.length → i < n → (List.replicate n l).flatten[i * l.length + j]? = l[j]? := by
  intro n
  induction n with
  | zero => intro i j _ hi; omega
  | succ n ih =>
    intro i j hj hi
    rw [List.replicate_succ, List.flatten_cons]
    match i, hi with
    | 0, _ => rw [Nat.zero_mul, Nat.zero_add, List.getElem?_append_left hj]
    | i + 1, hi =>
      rw [List.getElem?_append_right (by rw [Nat.succ_mul]; omega), show (i + 1) * l.length + j - l.length = i * l.length + j by rw [Nat.succ_mul]; omega]
      exact ih i j hj (by omega)
/-- Cells stored one behind the other. -/
def setRow (w : World) (b o : Nat) : List Value → World
  | [] => w
  | v :: vs => setRow (w.setCell ⟨b, o, none⟩ v) b (o + 1) vs
def arrRow (arr : Array Value) (o : Nat) : List Value → Array Value
  | [] => arr
  | v :: vs => arrRow (arr.setIfInBounds o v) (o + 1) vs
theorem arrRow_size (vs : List Value) : ∀ (arr : Array Value) (o : Nat), (arrRow arr o vs).size = arr.size := by
  induction vs with
  | nil => intro arr o; rfl
  | cons v vs ih => intro arr o; simp [arrRow, ih]
theorem arrRow_get (vs : List Value) : ∀ (arr : Array Value) (o k : Nat), o + vs.length ≤ arr.size →
    (arrRow arr o vs)[k]? = if o ≤ k ∧ k < o + vs.length then vs[k - o]? else arr[k]? := by
  induction vs with
  | nil => intro arr o k h; simp only [arrRow, List.length_nil, Nat.add_zero]; rw [if_neg (by omega)]
  | cons v vs ih =>
    intro arr o k h
    simp only [List.length_cons] at h
    simp only [arrRow, List.length_cons]
    rw [ih _ _ _ (by simpa using (by omega : o + 1 + vs.length ≤ arr.size))]
    by_cases h1 : k = o
    · subst h1
      rw [if_neg (by omega), if_pos (by omega), Array.getElem?_setIfInBounds]
      simp; omega
    · by_cases h2 : o + 1 ≤ k ∧ k < o + 1 + vs.length
      · rw [if_pos h2, if_pos (by omega)]
        obtain ⟨j, rfl⟩ : ∃ j, k = o + 1 + j := ⟨k - (o + 1), by omega⟩
        rw [show o + 1 + j - o = j + 1 by omega, show o + 1 + j - (o + 1) = j by omega]; rfl
      · rw [if_neg h2, if_neg (by omega), Array.getElem?_setIfInBounds, if_neg (by omega)]
theorem setRow_blk {b : Nat} {t : Nat} (vs : List Value) : ∀ {w : World} {arr : Array Value} (o : Nat), w.heap[b]? = some (.cells arr t (0,0)) →
    (setRow w b o vs).heap[b]? = some (.cells (arrRow arr o vs) t (0,0)) := by
  induction vs with
  | nil => intro w arr o h; exact h
  | cons v vs ih => intro w arr o h; exact ih _ (set_blk v h)
theorem Chg.row {S : Nat → Prop} {a : World} {b : Nat} (hb : S b ∨ a.heap.size ≤ b) (vs : List Value) : ∀ {w : World} (o : Nat), Chg S a w → Chg S a (setRow w b o vs) := by
  induction vs with
  | nil => intro w o h; exact h
  | cons v vs ih => intro w o h; exact ih _ (h.put hb)

section
variable {P : Program} (w : World)
theorem run_eqItems_ints (d : Nat) {e : TypeId} {k : IntKind} (he : P.underlying e = some (.int k)) (l m : List Int) : ∀ is : List Nat, (∀ i ∈ is, i < l.length ∧ i < m.length) →
    (Op.eqItems (d + 1) e 1 (l.map (Value.int k)).toArray (m.map (Value.int k)).toArray is).run P w = .ok (is.all fun i => decide (l.getD i 0 = m.getD i 0)) w
  | [], _ => by simp [Op.eqItems]
  | i :: is, h => by
    obtain ⟨h1, h2⟩ := h i (by simp)
    have hp : P.plainKey e = true := by simp [Program.plainKey, he]
    have p1 : (part e (l.map (Value.int k)).toArray (i * 1)).run P w = .ok (.int k (l.getD i 0)) w := run_part_plain w hp (by simp [h1])
    have p2 : (part e (m.map (Value.int k)).toArray (i * 1)).run P w = .ok (.int k (m.getD i 0)) w := run_part_plain w hp (by simp [h2])
    have q := run_equalIn_int w d e k k (l.getD i 0) (m.getD i 0) he
    have ih := run_eqItems_ints d he l m is (fun j hj => h j (by simp [hj]))
    simp only [Op.eqItems, Sem.run_bind, p1, p2, q, Result.andThen_ok]
    by_cases hc : l.getD i 0 = m.getD i 0
    · simp only [hc, beq_self_eq_true, Bool.not_true, Bool.false_eq_true, if_false, ih, List.all_cons, decide_true, Bool.true_and]
    · have : (l.getD i 0 == m.getD i 0) = false := by simpa using hc
      simp only [this, Bool.not_false, if_true, List.all_cons, hc, decide_false, Bool.false_and]; rfl
theorem run_equalIn_ints (d : Nat) {t e : TypeId} {k : IntKind} {n : Nat} {i : TypeInfo} (hu : P.underlying t = some (.array n e)) (he : P.underlying e = some (.int k)) (hi : P.info? e = some i) (hc : P.cellsOf e = 1)
    (l m : List Int) (hl : l.length = n) (hm : m.length = n) :
    (Op.equalIn (d + 2) t (.agg (l.map (Value.int k)).toArray) (.agg (m.map (Value.int k)).toArray)).run P w = .ok (decide (l = m)) w := by
  rw [run_equalIn_array w (d + 1) _ _ hu hi, hc, run_eqItems_ints w d he l m _ (by intro i hi; simp at hi; omega)]
  congr 1
  rw [Bool.eq_iff_iff, List.all_eq_true, decide_eq_true_eq]
  constructor
  · intro h
    apply List.ext_getElem (by omega)
    intro j h1 h2
    have := h j (by simp; omega)
    simpa [h1, h2] using this
  · rintro rfl; simp
end
end Go.Proofs.Ytlkbfacdaelbfaa
