/-
  SchedPlays: a row of one's own beside the two schedulers; the zones of a clone.
-/
import Derived.Test.YtiijnhgafadokaaSchRel
import Derived.Test.YtiijnhgafadokaaSchClone
namespace Go.Proofs.Ytiijnhgafadokaa
open Go.RowKit
set_option linter.unusedVariables false
variable {B : Nat}

/-- No record's row is block b. -/
def NoRow (S : Sch) (b : Nat) : Prop := ∀ k f, S.op k = some f → ∀ r ∈ f.l, r.cv.ownBlock ≠ some b
def NoRowR (R : RSch) (b : Nat) : Prop := ∀ f ∈ R.L, ∀ r ∈ f.l, r.cv.ownBlock ≠ some b
theorem SchAt.ownR {Z : Nat → Prop} {w w' : World} {s m N : Nat} {F : Int → Option Nat} {V : Int → Value} {S : Sch} (h : SchAt Z w s m N F V S) {b : Nat} (hb : ∃ cur, w.heap[b]? = some (.cells cur 49 (0,0))) (hn : NoRow S b) (hc : Chg (At b) w w') : SchAt Z w' s m N F V S := by
  obtain ⟨cb, hb⟩ := hb
  have ne : ∀ {i : Nat} {a : Array Value} {t : TypeId}, w.heap[i]? = some (.cells a t (0,0)) → t ≠ 49 → ¬ At b i := fun {i a t} hi ht hp => types_ne hi hb ht (show i = b from hp)
  refine ⟨hc.keep h.blk (ne h.blk (by decide)), h.map.keep (hc.block m h.map.lt (fun e => h.notMap hb (show m = b from e).symm)), fun k g hk => ?_, h.no, h.inj, h.rows, h.zs, h.zm, h.zg, h.zr, h.key⟩
  obtain ⟨f, hf, hF⟩ := h.fl k g hk
  refine ⟨f, hf, hc.keep hF.blk (ne hF.blk (by decide)), own_chg hF.row hc fun i hi => ?_, fun r hr => ?_, hF.len, hF.win0, hF.next0⟩
  · obtain ⟨cur, hh⟩ := own_blk hF.row hi
    exact ne hh (by decide)
  · have hR := hF.recs r hr
    exact ⟨own_chg hR.row hc fun i hi e => hn k f hf r hr (by rw [hi, show i = b from e]), hR.c0, hR.t0, hR.len⟩
theorem RSIs.ownR {w w' : World} {y : Nat} {R : RSch} (h : RSIs B w y R) {b : Nat} (hb : ∃ cur, w.heap[b]? = some (.cells cur 49 (0,0))) (hn : NoRowR R b) (hc : Chg (At b) w w') : RSIs B w' y R := by
  obtain ⟨vL, h⟩ := h
  obtain ⟨cb, hb⟩ := hb
  have ne : ∀ {i : Nat} {a : Array Value} {t : TypeId}, w.heap[i]? = some (.cells a t (0,0)) → t ≠ 49 → ¬ At b i := fun {i a t} hi ht hp => types_nott hi hb ht (show i = b from hp)
  refine ⟨vL, hc.keep h.blk (ne h.blk (by decide)), own_chg h.row hc (fun i hi => ?_), fun f hf => ?_, h.apart, h.len, h.zy, h.zL, h.zl⟩
  · obtain ⟨cur, hh⟩ := own_blk h.row hi
    exact ne hh (by decide)
  · have hF := h.fl f hf
    refine ⟨own_chg hF.row hc fun i hi => ?_, fun r hr => ?_, hF.len, hF.win0, hF.top0⟩
    · obtain ⟨cur, hh⟩ := own_blk hF.row hi
      exact ne hh (by decide)
    · have hR := hF.recs r hr
      exact ⟨own_chg hR.row hc fun i hi e => hn f hf r hr (by rw [hi, show i = b from e]), hR.c0, hR.t0, hR.len⟩
/-- All records' rows lie below. -/
theorem SchIs.rowsBelow {Z : Nat → Prop} {w : World} {s N : Nat} {S : Sch} (h : SchIs Z w s N S) : ∀ k f, S.op k = some f → ∀ r ∈ f.l, ∀ i, r.cv.ownBlock = some i → i < w.heap.size := by
  obtain ⟨m, F, V, h⟩ := h
  intro k f hf r hr i hi
  cases hF : F k with
  | none => rw [h.no k hF] at hf; cases hf
  | some g =>
    obtain ⟨f', h1, h2⟩ := h.fl k g hF
    rw [hf] at h1
    cases h1
    exact ((h2.recs r hr).row.lt i hi).2
theorem RSIs.rowsBelow {w : World} {y : Nat} {R : RSch} (h : RSIs B w y R) : ∀ f ∈ R.L, ∀ r ∈ f.l, ∀ i, r.cv.ownBlock = some i → i < w.heap.size := by
  obtain ⟨vL, h⟩ := h
  intro f hf r hr i hi
  exact (((h.fl f hf).recs r hr).row.lt i hi).2
theorem noRow_sent {Z : Nat → Prop} {w : World} {s N : Nat} {S : Sch} (h : SchIs Z w s N S) {b : Nat} (hb : w.heap.size ≤ b) (k c now : Int) (cv : Value) (car : List (Int × Int)) (hcv : ∀ i, cv.ownBlock = some i → b < i) : NoRow (sentS S k c now cv car) b := by
  have h0 := h.rowsBelow
  unfold sentS
  cases hk : S.op k with
  | none =>
    intro k' f hf r hr e
    have := h0 k' f hf r hr b e
    omega
  | some f0 =>
    simp only
    split
    · intro k' f hf r hr e
      have := h0 k' f hf r hr b e
      omega
    · intro k' f hf r hr e
      unfold setOp at hf
      simp only at hf
      by_cases ek : k' = k
      · rw [if_pos ek] at hf
        cases hf
        rcases List.mem_append.1 hr with hr | hr
        · have := h0 k f0 hk r hr b e
          omega
        · rw [List.mem_singleton] at hr
          subst hr
          have := hcv b e
          omega
      · rw [if_neg ek] at hf
        have := h0 k' f hf r hr b e
        omega
theorem noRowR_sent {w : World} {y : Nat} {R : RSch} (h : RSIs B w y R) {b : Nat} (hb : w.heap.size ≤ b) (id c now : Int) (lv cv : Value) (car : List (Int × Int)) (hcv : ∀ i, cv.ownBlock = some i → b < i) : NoRowR (sentRS R id c now lv cv car) b := by
  have h0 := h.rowsBelow
  have base : NoRowR R b := fun f hf r hr e => by
    have := h0 f hf r hr b e
    omega
  unfold sentRS
  split
  · split
    · rename_i i f hif _ _ hif2
      split
      · exact base
      · intro q hq r hr e
        rcases List.mem_or_eq_of_mem_set hq with hq | rfl
        · exact base q hq r hr e
        · rcases List.mem_append.1 hr with hr | hr
          · exact base _ (List.mem_of_getElem? (by assumption)) r hr e
          · rw [List.mem_singleton] at hr
            subst hr
            have := hcv b e
            omega
    · exact base
  · exact base
/-! Zones. -/
theorem SchIs.zmono {Z Z' : Nat → Prop} {w : World} {s N : Nat} {S : Sch} (h : SchIs Z w s N S) (hz : ∀ i, i < w.heap.size → Z i → Z' i) : SchIs Z' w s N S := by
  obtain ⟨m, F, V, h⟩ := h
  refine ⟨m, F, V, { h with zs := hz _ (lt_blk h.blk) h.zs, zm := hz _ h.map.lt h.zm, zg := fun k g hk => ?_, zr := fun k g r hk hr => ?_ }⟩
  · obtain ⟨f, _, hF⟩ := h.fl k g hk
    exact hz _ (lt_blk hF.blk) (h.zg k g hk)
  · obtain ⟨f, _, hF⟩ := h.fl k g hk
    exact hz _ (hF.row.lt r hr).2 (h.zr k g r hk hr)
/-- What another one does in its own zone leaves it. -/
theorem SchIs.apart {Z Z' : Nat → Prop} {w w' : World} {s N : Nat} {S : Sch} (h : SchIs Z w s N S) (hc : ChgZ Z' w w') (hd : ∀ i, Z i → ¬ Z' i) : SchIs Z w' s N S := by
  obtain ⟨m, F, V, h⟩ := h
  refine ⟨m, F, V, Chg.keep hc h.blk (fun e => hd _ h.zs e.1), h.map.keep (Chg.block hc m h.map.lt (fun e => hd _ h.zm e.1)), fun k g hk => ?_, h.no, h.inj, h.rows, h.zs, h.zm, h.zg, h.zr, h.key⟩
  obtain ⟨f, hf, hF⟩ := h.fl k g hk
  refine ⟨f, hf, Chg.keep hc hF.blk (fun e => hd _ (h.zg k g hk) e.1), own_chg hF.row hc (fun i hi e => hd _ (h.zr k g i hk hi) e.1), fun r hr => ?_, hF.len, hF.win0, hF.next0⟩
  have hR := hF.recs r hr
  exact ⟨own_chg hR.row hc fun i hi e => by
    obtain ⟨cur, hh⟩ := own_blk hR.row hi
    exact cells_other hh (by decide) e.2, hR.c0, hR.t0, hR.len⟩
/-- The document's works: the scheduler stays. -/
theorem SchIs.refs {Z : Nat → Prop} {w w' : World} {s N : Nat} {S : Sch} (h : SchIs Z w s N S) (hc : ChgR B w w') : SchIs Z w' s N S := by
  obtain ⟨m, F, V, h⟩ := h
  have hn : ∀ {i : Nat} {a : Array Value} {t : TypeId}, w.heap[i]? = some (.cells a t (0,0)) → t ≠ 114 ∧ t ≠ 117 ∧ t ≠ 120 → ¬ MineR B w i := fun hi ht => mineR_not hi ht
  have nm : ¬ MineR B w m := by
    rintro ⟨-, cur, t, hh, _⟩
    exact h.notMap hh rfl
  refine ⟨m, F, V, Chg.keep hc h.blk (hn h.blk (by decide)), h.map.keep (Chg.block hc m h.map.lt nm), fun k g hk => ?_, h.no, h.inj, h.rows, h.zs, h.zm, h.zg, h.zr, h.key⟩
  obtain ⟨f, hf, hF⟩ := h.fl k g hk
  refine ⟨f, hf, Chg.keep hc hF.blk (hn hF.blk (by decide)), own_chg hF.row hc (fun i hi => ?_), fun r hr => ?_, hF.len, hF.win0, hF.next0⟩
  · obtain ⟨cur, hh⟩ := own_blk hF.row hi
    exact hn hh (by decide)
  have hR := hF.recs r hr
  exact ⟨own_chg hR.row hc fun i hi => by
    obtain ⟨cur, hh⟩ := own_blk hR.row hi
    exact hn hh (by decide), hR.c0, hR.t0, hR.len⟩
end Go.Proofs.Ytiijnhgafadokaa
