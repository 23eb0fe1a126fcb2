/-
  The scheduler (layer 21): its object; New, of, Under, Window, Open.
-/
import Derived.Test.YtiijnhgafadokaaSchMap
import Derived.Test.YtiijnhgafadokaaRng
import Derived.Lib.Hide
import Derived.Laws.AppendOwn
namespace Go.Proofs.Ytiijnhgafadokaa
open Go.RowKit
set_option linter.unusedVariables false

/-- A record under way; cv is the slice that carries. -/
structure Rec where
  c : Int
  t : Int
  cv : Value
  car : List (Int × Int)
structure Fl where
  win : Int
  next : Int
  l : List Rec
structure Sch where
  pol : Int
  last : Int
  op : Int → Option Fl
def rcl (l : List Rec) : List Value := l.flatMap fun r => [.int .i64 r.c, .int .i64 r.t, r.cv]
structure RecOk (w : World) (r : Rec) : Prop where
  row : w.ownsRow 0 49 2 r.cv r.car.length (flat r.car)
  c0 : 0 ≤ r.c ∧ r.c ≤ 281474976710655
  t0 : 0 ≤ r.t ∧ r.t ≤ 1099511627776
  len : r.car.length ≤ 2000000
structure FlAt (w : World) (g : Nat) (v : Value) (f : Fl) : Prop where
  blk : w.heap[g]? = some (.cells #[.int .i64 f.win, .int .i64 f.next, v] 101 (0,0))
  row : w.ownsRow 0 104 3 v f.l.length (rcl f.l)
  recs : ∀ r ∈ f.l, RecOk w r
  len : f.l.length ≤ 100000
  win0 : 2 ≤ f.win ∧ f.win ≤ 32
  next0 : 0 ≤ f.next ∧ f.next ≤ 281474976710656
structure SchAt (Z : Nat → Prop) (w : World) (s m N : Nat) (F : Int → Option Nat) (V : Int → Value) (S : Sch) : Prop where
  blk : w.heap[s]? = some (.cells #[.int .i64 S.pol, .int .i64 S.last, .map (some m)] 96 (0,0))
  map : MapAt w m N F
  fl : ∀ k g, F k = some g → ∃ f, S.op k = some f ∧ FlAt w g (V k) f
  no : ∀ k, F k = .none → S.op k = .none
  inj : ∀ k k' g, F k = some g → F k' = some g → k = k'
  rows : ∀ k k' g g' r, F k = some g → F k' = some g' → (V k).ownBlock = some r → (V k').ownBlock = some r → k = k'
  zs : Z s
  zm : Z m
  zg : ∀ k g, F k = some g → Z g
  zr : ∀ k g r, F k = some g → (V k).ownBlock = some r → Z r
  key : ∀ k g, F k = some g → 0 ≤ k ∧ k ≤ 9223372036854775807
def SchIs (Z : Nat → Prop) (w : World) (s N : Nat) (S : Sch) : Prop := ∃ m F V, SchAt Z w s m N F V S

/-! What may change: the scheduler's own blocks, told by their kind. -/
def Mine (w : World) (i : Nat) : Prop :=
  (∃ a t fr, w.heap[i]? = some (.cells a t fr) ∧ (t = 96 ∨ t = 101 ∨ t = 104)) ∨ ∃ es c, w.heap[i]? = some (.map es c)
def ChgZ (Z : Nat → Prop) (w w' : World) : Prop := Chg (fun i => Z i ∧ Mine w i) w w'
theorem ChgZ.refl (Z : Nat → Prop) (w : World) : ChgZ Z w w := Chg.refl _ _
theorem ChgZ.trans {Z : Nat → Prop} {a b c : World} (h : ChgZ Z a b) (k : ChgZ Z b c) : ChgZ Z a c := by
  refine Chg.trans h k fun i hi ⟨hz, hm⟩ => ?_
  refine Classical.byContradiction fun hn => ?_
  have e := Chg.block h i hi hn
  apply hn
  refine ⟨hz, ?_⟩
  unfold Mine at hm ⊢
  rwa [e] at hm
theorem ChgZ.of {Z : Nat → Prop} {S : Nat → Prop} {w w' : World} (h : Chg S w w') (hs : ∀ i, i < w.heap.size → S i → Z i ∧ Mine w i) : ChgZ Z w w' := Chg.mono h hs
theorem ChgZ.none {Z : Nat → Prop} {w w' : World} (h : Chg Nowhere w w') : ChgZ Z w w' := ChgZ.of h fun _ _ h => h.elim
/-- A row of ranges stays. -/
theorem cells_other {w : World} {i : Nat} {a : Array Value} {t : Nat} (h : w.heap[i]? = some (.cells a t (0,0))) (ht : t ≠ 96 ∧ t ≠ 101 ∧ t ≠ 104) : ¬ Mine w i := by
  rintro (⟨a', t', fr, h', hk⟩ | ⟨es, c, h'⟩)
  · rw [h] at h'
    simp only [Option.some.injEq, Obj.cells.injEq] at h'
    obtain ⟨-, rfl, -⟩ := h'
    exact hk.elim ht.1 (fun hk => hk.elim ht.2.1 ht.2.2)
  · rw [h] at h'; cases h'
theorem own_chg {w w' : World} {base : Nat} {e : TypeId} {size : Nat} {v : Value} {n : Nat} {xs : List Value} {S : Nat → Prop} (h : w.ownsRow base e size v n xs) (hc : Chg S w w') (hn : ∀ i, v.ownBlock = some i → ¬ S i) : w'.ownsRow base e size v n xs := by
  refine ⟨h.1, ?_⟩
  rcases h.2 with h0 | ⟨g, cap, cur, hv, hg, hh, h1⟩
  · exact .inl h0
  · refine .inr ⟨g, cap, cur, hv, hg, hc.keep hh (hn g (by rw [hv]; rfl)), h1⟩
theorem own_blk {w : World} {base : Nat} {e : TypeId} {size : Nat} {v : Value} {n : Nat} {xs : List Value} (h : w.ownsRow base e size v n xs) {i : Nat} (hi : v.ownBlock = some i) : ∃ cur, w.heap[i]? = some (.cells cur e (0,0)) := by
  rcases h.2 with ⟨rfl, _⟩ | ⟨g, cap, cur, rfl, _, hh, _⟩
  · cases hi
  · simp only [Value.ownBlock, Option.some.injEq] at hi; subst hi; exact ⟨_, hh⟩
theorem RecOk.chg {w w' : World} {r : Rec} (h : RecOk w r) {S : Nat → Prop} (hc : Chg S w w') (hn : ∀ i, S i → Mine w i) : RecOk w' r :=
  ⟨own_chg h.row hc fun i hi hs => by
    obtain ⟨cur, hh⟩ := own_blk h.row hi
    exact cells_other hh (by decide) (hn i hs), h.c0, h.t0, h.len⟩
theorem FlAt.mine {w : World} {g : Nat} {v : Value} {f : Fl} (h : FlAt w g v f) : Mine w g := .inl ⟨_, _, _, h.blk, .inr (.inl rfl)⟩
theorem FlAt.rowMine {w : World} {g : Nat} {v : Value} {f : Fl} (h : FlAt w g v f) {i : Nat} (hi : v.ownBlock = some i) : Mine w i := by
  obtain ⟨cur, hh⟩ := own_blk h.row hi
  exact .inl ⟨_, _, _, hh, .inr (.inr rfl)⟩
theorem FlAt.apart {w : World} {g : Nat} {v : Value} {f : Fl} (h : FlAt w g v f) : v.ownBlock ≠ some g := fun hi => by
  obtain ⟨cur, hh⟩ := own_blk h.row hi
  have := h.blk.symm.trans hh
  simp only [Option.some.injEq, Obj.cells.injEq] at this
  exact absurd this.2.1 (by decide)
/-- A flight stays where neither its block nor its row is touched. -/
theorem FlAt.chg {w w' : World} {g : Nat} {v : Value} {f : Fl} (h : FlAt w g v f) {S : Nat → Prop} (hc : Chg S w w') (hm : ∀ i, S i → Mine w i) (hg : ¬ S g) (hv : ∀ i, v.ownBlock = some i → ¬ S i) : FlAt w' g v f :=
  ⟨hc.keep h.blk hg, own_chg h.row hc hv, fun r hr => (h.recs r hr).chg hc hm, h.len, h.win0, h.next0⟩
theorem SchAt.chg {Z : Nat → Prop} {w w' : World} {s m N : Nat} {F : Int → Option Nat} {V : Int → Value} {S : Sch} (h : SchAt Z w s m N F V S) (hc : Chg Nowhere w w') : SchAt Z w' s m N F V S :=
  ⟨hc.same h.blk, h.map.keep (hc.block m h.map.lt (not_nowhere _)), fun k g hk => by
    obtain ⟨f, hf, hF⟩ := h.fl k g hk
    exact ⟨f, hf, hF.chg hc (fun _ h => h.elim) (not_nowhere _) (fun _ _ => not_nowhere _)⟩, h.no, h.inj, h.rows, h.zs, h.zm, h.zg, h.zr, h.key⟩
theorem SchIs.idle {Z : Nat → Prop} {w w' : World} {s N : Nat} {S : Sch} (h : SchIs Z w s N S) (hc : Chg Nowhere w w') : SchIs Z w' s N S := by
  obtain ⟨m, F, V, h⟩ := h
  exact ⟨m, F, V, h.chg hc⟩

/-! New, moment, kind. -/
def newS (p : Int) : Sch := ⟨p, -1, fun _ => .none⟩
def NewSTo (w : World) (p : Int) (e : Ending) (w' : World) : Prop :=
  ∃ s, e = .returned (.pointer (some ⟨s, 0, .none⟩)) ∧ SchIs (fun i => w.heap.size ≤ i) w' s 0 (newS p) ∧ Chg Nowhere w w'
set_option maxHeartbeats 400000 in
theorem newS_any (p : Int) (w : World) : Calls Try.prog 41 #[.int .i64 p] w (NewSTo w p) := by
  have hmm := @run_makeMap Try.prog
  go_enter Try.func41, Try.ntmps41
  go_wp2_with fail
  go_ret
  have A1 : (w.alloc (.map #[] 0)).heap.size = w.heap.size + 1 := by simp
  have hb := alloc_new (w.alloc (.map #[] 0)) (.cells #[.int .i64 p, .int .i64 (-1), .map (some w.heap.size)] 96)
  rw [A1] at hb
  refine ⟨w.heap.size + 1, rfl, ⟨w.heap.size, fun _ => .none, fun _ => .slice .none 0 0, hb, (mapAt_made w).keep (((Chg.refl Nowhere _).alloc _).block _ (by simp) (not_nowhere _)), (fun k g hk => by cases hk), (fun _ _ => rfl), (fun _ _ _ hk => by cases hk), (fun _ _ _ _ _ hk => by cases hk), Nat.le_succ _, Nat.le_refl _, (fun _ _ hk => by cases hk), (fun _ _ _ hk => by cases hk), (fun _ _ hk => by cases hk)⟩, ((Chg.refl _ w).alloc _).alloc _⟩

def mom21 (n : Int) : Int := max 0 (min n 1099511627776)
theorem mom21_in (n : Int) : 0 ≤ mom21 n ∧ mom21 n ≤ 1099511627776 := by unfold mom21; omega
set_option maxHeartbeats 400000 in
theorem mom21_any (n : Int) (w : World) : Calls Try.prog 72 #[.int .i64 n] w fun e w' => e = .returned (.int .i64 (mom21 n)) ∧ w = w' := by
  have E := Lib.hid (show mom21 n = max 0 (min n 1099511627776) from rfl)
  go_enter Try.func72, Try.ntmps72
  rcases (by omega : n < 0 ∨ n = 0 ∨ 0 < n ∧ n < 1099511627776 ∨ n = 1099511627776 ∨ 1099511627776 < n) with h | rfl | ⟨h, h2⟩ | rfl | h
  · rw [show max 0 (min n 1099511627776) = 0 by omega] at E
    go_wp2_with fail
    go_ret
    rw [E.out]; exact ⟨rfl, rfl⟩
  · rw [show max (0 : Int) (min 0 1099511627776) = 0 by omega] at E
    go_wp2_with fail
    go_ret
    rw [E.out]; exact ⟨rfl, rfl⟩
  · rw [show max 0 (min n 1099511627776) = n by omega] at E
    go_wp2_with fail
    go_ret
    rw [E.out]; exact ⟨rfl, rfl⟩
  · rw [show max (0 : Int) (min 1099511627776 1099511627776) = 1099511627776 by omega] at E
    go_wp2_with fail
    go_ret
    rw [E.out]; exact ⟨rfl, rfl⟩
  · rw [show max 0 (min n 1099511627776) = 1099511627776 by omega] at E
    go_wp2_with fail
    go_ret
    rw [E.out]; exact ⟨rfl, rfl⟩
end Go.Proofs.Ytiijnhgafadokaa
