/-
  The scheduler (layer 21): Clone.
-/
import Derived.Test.YtiijnhgafadokaaSchCloneA
namespace Go.Proofs.Ytiijnhgafadokaa
open Go.RowKit
set_option linter.unusedVariables false

def CloneSTo (w : World) (N : Nat) (S : Sch) (e : Ending) (w' : World) : Prop :=
  ∃ c, e = .returned (.pointer (some ⟨c, 0, .none⟩)) ∧ SchIs (fun i => w.heap.size ≤ i) w' c N S ∧ Chg Nowhere w w'
/-- Within the loop. -/
structure ClIn (w : World) (m r N : Nat) (D : DataW Unit) (c mc cnt0 : Nat) (S : Sch) (left : Lit → Bool) (cnt : Nat) (wr : World) : Prop where
  rg : wr.ranges Try.prog 3 rptr m r N D left cnt
  chg : Chg Nowhere w wr
  new : ∃ F V, SchAt (fun i => w.heap.size ≤ i) wr c mc (cnt0 - cnt) F V (stillS S left)
  le : cnt ≤ cnt0
theorem MapAt.mono {w : World} {m n n' : Nat} {F : Int → Option Nat} (h : MapAt w m n F) (hn : n ≤ n') : MapAt w m n' F := by
  obtain ⟨D, hD, hO, hF⟩ := h
  exact ⟨D, hD, hO.mono hn, hF⟩
theorem SchAt.mono {Z : Nat → Prop} {w : World} {s m N N' : Nat} {F : Int → Option Nat} {V : Int → Value} {S : Sch} (h : SchAt Z w s m N F V S) (hn : N ≤ N') : SchAt Z w s m N' F V S := { h with map := h.map.mono hn }
theorem ranges_chg {w w' : World} {m r n : Nat} {D : DataW Unit} {left : Lit → Bool} {cnt : Nat} (h : w.ranges Try.prog 3 rptr m r n D left cnt) {P : Nat → Prop} (hc : Chg P w w') (hm : ¬ P m) (hr : ¬ P r) : w'.ranges Try.prog 3 rptr m r n D left cnt := by
  obtain ⟨es, clock, since, seen, c0, hb, F, hs, hD, hi, rest⟩ := h
  exact ⟨es, clock, since, seen, c0, hc.keep hb hm, F, hs, hD, hc.keep hi hr, rest⟩
/-- The iterator moves on: the scheduler stays. -/
theorem SchAt.iter {Z : Nat → Prop} {w w' : World} {s m N : Nat} {F : Int → Option Nat} {V : Int → Value} {S : Sch} (h : SchAt Z w s m N F V S) {r : Nat} (hr : ∃ a b c d, w.heap[r]? = some (.mapIter a b c d)) (hc : Chg (At r) w w') : SchAt Z w' s m N F V S := by
  obtain ⟨a1, b1, c1, d1, hr⟩ := hr
  have ne : ∀ {i : Nat} {a : Array Value} {t : TypeId}, w.heap[i]? = some (.cells a t (0,0)) → ¬ At r i := fun {i a t} hi hp => by
    rw [show i = r from hp, hr] at hi; cases hi
  have nm : ¬ At r m := fun hp => by
    obtain ⟨D, _, ⟨es, ck, hb, _⟩, _⟩ := h.map
    rw [show m = r from hp, hr] at hb; cases hb
  refine ⟨hc.keep h.blk (ne h.blk), h.map.keep (hc.block m h.map.lt nm), fun k g hk => ?_, h.no, h.inj, h.rows, h.zs, h.zm, h.zg, h.zr, h.key⟩
  obtain ⟨f, hf, hF⟩ := h.fl k g hk
  refine ⟨f, hf, hc.keep hF.blk (ne hF.blk), own_chg hF.row hc fun i hi => ?_, fun r hr => ?_, hF.len, hF.win0, hF.next0⟩
  · obtain ⟨cur, hh⟩ := own_blk hF.row hi
    exact ne hh
  · have hR := hF.recs r hr
    refine ⟨own_chg hR.row hc fun i hi => ?_, hR.c0, hR.t0, hR.len⟩
    obtain ⟨cur, hh⟩ := own_blk hR.row hi
    exact ne hh
set_option maxHeartbeats 3200000 in
set_option maxRecDepth 100000 in
theorem cloneS_any (Z : Nat → Prop) (w : World) (s N : Nat) (S : Sch) (h : SchIs Z w s N S) (hN : N < 1000000) :
    Calls Try.prog 59 #[.pointer (some ⟨s, 0, .none⟩)] w (CloneSTo w N S) := by
  obtain ⟨m, F, V, h⟩ := h
  have H := Lib.hid h
  obtain ⟨D, hD, hO, hF⟩ := h.map
  have HDM := Lib.hid hD
  have HOW := Lib.hid hO
  have HDF := Lib.hid hF
  have hsl := lt_blk h.blk
  have c0 : w.cell? ⟨s, 0, .none⟩ = some (.int .i64 S.pol) := by rw [cell_blk h.blk]; rfl
  clear h hD hO hF
  go_enter Try.func59, Try.ntmps59
  go_wp2_with fail
  refine (newS_any _ _).mono ?_
  rintro e w1 ⟨c, rfl, ⟨mc, F1, V1, hI⟩, hC⟩
  have HN1 := Lib.hid (hI.setLast S.last)
  have HC1 := Lib.hid hC
  have c1 : w1.cell? ⟨s, 1, .none⟩ = some (.int .i64 S.last) := by rw [cell_blk (hC.same H.out.blk)]; rfl
  have c2 : w1.cell? ⟨s, 2, .none⟩ = some (.map (some m)) := by rw [cell_blk (hC.same H.out.blk)]; rfl
  have fc : w1.frozen? ⟨c, 1, .none⟩ = false := frozen_blk hI.blk
  have cc : w1.cell? ⟨c, 1, .none⟩ = some (.int .i64 (-1)) := by rw [cell_blk hI.blk]; rfl
  have hcs : w.heap.size ≤ c := hI.zs
  have hsc : s ≠ c := by omega
  have HO1 := Lib.hid (show (w1.setCell ⟨c, 1, .none⟩ (.int .i64 S.last)).ownsMap Try.prog 3 rptr m N D by
    obtain ⟨es, ck, hb, r⟩ := HOW.out
    have hml := lt_blk hb
    exact ⟨es, ck, (set_other _ (by show m ≠ c; omega)).trans (hC.same hb), r⟩)
  have HCS := Lib.hid (show Chg Nowhere w (w1.setCell ⟨c, 1, .none⟩ (.int .i64 S.last)) from hC.put (b := c) (.inr hcs))
  clear hI hC
  go_wp2_with (at_range; refine wpList_range_own _ rfl _ 94 rfl 3 _ keyI Try.underlying94 rptr m N D rfl HO1.out ?_; intro w2 hrg2 hg2 hs2; have HRG := Lib.hid hrg2; have HG2 := Lib.hid hg2; clear hrg2 hg2 hs2)
  go_frame
  have HR0 := Lib.hid (show w1.heap.size = (w1.setCell ⟨c, 1, .none⟩ (.int .i64 S.last)).heap.size by rw [set_size])
  have hcw1 : w.heap.size ≤ w1.heap.size := HC1.out.size
  have hsz := HOW.out.size_le
  have HI0 := Lib.hid (show ClIn w m (w1.setCell ⟨c, 1, .none⟩ (.int .i64 S.last)).heap.size N D c mc (Maps.size D) S (Maps.has D) (Maps.size D) w2 from
    ⟨HRG.out, HCS.out.grown HG2.out (fun k hk => by cases hk), ⟨F1, V1, by
      rw [still_start H.out HDM.out HDF.out, Nat.sub_self]
      exact HN1.out.chg ((Chg.refl Nowhere _).grown HG2.out (fun k hk => by cases hk))⟩, Nat.le_refl _⟩)
  have hrr : w.heap.size ≤ (w1.setCell ⟨c, 1, .none⟩ (.int .i64 S.last)).heap.size := by rw [set_size]; exact hcw1
  clear HRG HG2 HN1 HR0 c0 c1 c2 fc cc HO1
  generalize (w1.setCell ⟨c, 1, .none⟩ (.int .i64 S.last)).heap.size = r at HI0 hrr ⊢
  go_loopw [] (fun wr => ∃ (left : Lit → Bool) (cnt : Nat), Hid (ClIn w m r N D c mc (Maps.size D) S left cnt wr)) (fun wr => wr.rangeLeft m r)
  case atStart => exact ⟨_, _, HI0⟩
  case round =>
    clear HI0
    obtain ⟨left, cnt, HR⟩ := hrel
    go_wp2_with (at_next; refine wpList_next_ranges _ rfl _ rfl 3 keyI rptr (Value.int .i64) (fun g : Nat => Value.pointer (some ⟨g, 0, .none⟩)) (fun key kl hk => by obtain ⟨x, hx, _⟩ := Maps.keyOf_int_inv Try.underlying3 hk; exact ⟨x, hx⟩) (fun v y hv => by obtain ⟨g, hg, _⟩ := rptr_inv hv; exact ⟨g, hg⟩) m r N D left cnt rfl HR.out.rg ?_ ?_)
    · intro hc0 hl0
      have hcn := hc0
      clear hc0
      have HL0 := Lib.hid hl0
      clear hl0
      go_wp2_with fail
      go_ret
      obtain ⟨F2, V2, hn⟩ := HR.out.new
      rw [still_done (fun k => HL0.out _)] at hn
      exact ⟨c, rfl, ⟨mc, F2, V2, hn.mono (by omega)⟩, HR.out.chg⟩
    · intro x g kl ya yb w3 cnt1 hkey hlk hR hat hrg1 hlt hg1 hs1 hen
      obtain ⟨x', hx', rfl, -⟩ := Maps.keyOf_int_inv Try.underlying3 hkey
      cases hx'
      obtain ⟨g', hg', hyy⟩ := rptr_inv hR
      cases hyy
      simp only [Value.pointer.injEq, Option.some.injEq, Addr.mk.injEq] at hg'
      obtain ⟨rfl, -⟩ := hg'
      obtain ⟨g2, hFx⟩ := at_inj (y := .lit (.int .i64 (g : Int))) fun z => (HDF.out x z).symm.trans (hat z)
      have hgg : g2 = g := by
        have h1 := (HDF.out x (.lit (.bool true))).symm.trans (hat (.lit (.bool true)))
        rw [hFx] at h1
        simp only [at_, DataW.lit.injEq, Lit.int.injEq, true_and] at h1
        omega
      subst hgg
      obtain ⟨f, hop, hfl⟩ := H.out.fl x g2 hFx
      have hkx := H.out.key x g2 hFx
      have hC3 : Chg Nowhere w w3 := HR.out.chg.grown hg1 (fun k hk => .inl (by cases hk; exact hrr))
      have hfl3 := hfl.chg hC3 (fun _ h => h.elim) (not_nowhere _) (fun _ _ => not_nowhere _)
      obtain ⟨F2, V2, hn⟩ := HR.out.new
      have hit : ∃ a b c d, (wr).heap[r]? = some (.mapIter a b c d) := by
        obtain ⟨es, clock, since, seen, c0, hb, F, hs, hD, hi, rest⟩ := HR.out.rg
        exact ⟨_, _, _, _, hi⟩
      have hn3 := hn.iter hit ((Chg.refl (At r) wr).grown hg1 (fun k hk => .inr (by cases hk; rfl)))
      have HN3 := Lib.hid hn3
      have HFL := Lib.hid hfl3
      have HC3 := Lib.hid hC3
      have HRG := Lib.hid hrg1
      have HOP := Lib.hid hop
      have HLK := Lib.hid hlk
      obtain ⟨-, Af, cf, hv, -, -⟩ := Rd.of_owns hfl3.row
      have HV := Lib.hid hv
      have d0 : w3.cell? ⟨g2, 0, .none⟩ = some (.int .i64 f.win) := by rw [cell_blk hfl3.blk]; rfl
      have d1 : w3.cell? ⟨g2, 1, .none⟩ = some (.int .i64 f.next) := by rw [cell_blk hfl3.blk]; rfl
      have d2 : w3.cell? ⟨g2, 2, .none⟩ = some (.slice Af f.l.length cf) := by rw [cell_blk hfl3.blk, ← hv]; rfl
      have hgl := lt_blk hfl3.blk
      have HRD := Lib.hid (show Rd (w3.alloc (.cells #[.int .i64 f.win, .int .i64 f.next, .slice Af f.l.length cf] 101)) (.slice Af f.l.length cf) 3 f.l.length (rcl f.l) by rw [← hv]; exact (Rd.of_owns hfl3.row).same ((Chg.refl _ _).alloc _))
      have HRC := Lib.hid (show ∀ q ∈ f.l, RecOk (w3.alloc (.cells #[.int .i64 f.win, .int .i64 f.next, .slice Af f.l.length cf] 101)) q from fun q hq => (hfl3.recs q hq).chg ((Chg.refl Nowhere _).alloc _) (fun _ h => h.elim))
      have hfll := hfl3.len
      have hle := HR.out.le
      have hml : m < w.heap.size := H.out.map.lt
      have hrl := hrg1.lt
      have hmc := hn3.map.lt
      have hmcz : w.heap.size ≤ mc := hn3.zm
      have hszr : wr.heap.size = w3.heap.size := hs1.symm
      clear hkey hlk hat hrg1 hg1 hs1 hop hfl hC3 hfl3 hn hit hn3 hv hR hFx hszr
      go_wp2_with fail
      refine (cloneL_any _ f.l _ HRD.out HRC.out hfll).mono ?_
      rintro e w5 ⟨v', rfl, ho5, hC5, hv5⟩
      have HO5 := Lib.hid ho5
      have HC5 := Lib.hid hC5
      have HV5 := Lib.hid hv5
      obtain ⟨-, A5, c5, rfl, -, -⟩ := Rd.of_owns ho5
      have hb5 := hC5.same (alloc_new w3 (.cells #[.int .i64 f.win, .int .i64 f.next, .slice Af f.l.length cf] 101))
      have HB5 := Lib.hid hb5
      have f5 : w5.frozen? ⟨w3.heap.size, 2, .none⟩ = false := frozen_blk hb5
      have k5 : w5.cell? ⟨w3.heap.size, 2, .none⟩ = some (.slice Af f.l.length cf) := by rw [cell_blk hb5]; rfl
      have hC35 : Chg Nowhere w3 w5 := ((Chg.refl Nowhere w3).alloc _).trans' hC5
      have HC35 := Lib.hid hC35
      have hcl : c < w3.heap.size := lt_blk HN3.out.blk
      have hc5 : w5.cell? ⟨c, 2, .none⟩ = some (.map (some mc)) := by rw [cell_blk (hC35.same HN3.out.blk)]; rfl
      have hcl5 : c < w5.heap.size := Nat.lt_of_lt_of_le hcl hC35.size
      have ncb : c ≠ w3.heap.size := by omega
      have hs35 := hC35.size
      have HC36 := Lib.hid (show Chg Nowhere w3 (w5.setCell ⟨w3.heap.size, 2, .none⟩ (.slice A5 f.l.length c5)) from hC35.put (b := w3.heap.size) (.inr (Nat.le_refl _)))
      clear ho5 hC5 hv5 hb5 hC35 d0 d1 d2
      go_wp2_with (at_mapUpdate; refine wpList_mapPut _ rfl _ _ _ rfl rfl (HN3.out.map.keep (HC36.out.block _ HN3.out.map.lt (not_nowhere _))) (by unfold maxLen; omega) x w3.heap.size rfl rfl (by omega) ?_; intro w7 hm7 hg7; have HM := Lib.hid hm7; have HG := Lib.hid hg7; clear hm7 hg7; go_frame)
      have hFl6 : FlAt (w5.setCell ⟨w3.heap.size, 2, .none⟩ (.slice A5 f.l.length c5)) w3.heap.size (.slice A5 f.l.length c5) f := by
        have hCb : Chg (At w3.heap.size) w5 (w5.setCell ⟨w3.heap.size, 2, .none⟩ (.slice A5 f.l.length c5)) := (Chg.refl _ _).putAt
        refine ⟨by rw [set_blk _ HB5.out]; rfl, own_chg HO5.out hCb fun i hi e => ?_, fun q hq => ?_, hfll, HFL.out.win0, HFL.out.next0⟩
        · obtain ⟨cur, hh⟩ := own_blk HO5.out hi
          exact types_ne hh HB5.out (by decide) (show i = w3.heap.size from e)
        · exact (HFL.out.recs q hq).chg HC36.out (fun _ h => h.elim)
      have hlx : left (.int .i64 x) = true := HLK.out
      have hFn : F2 x = .none := by
        cases hq : F2 x with
        | none => rfl
        | some g9 =>
          obtain ⟨f9, h9, -⟩ := HN3.out.fl x g9 hq
          unfold stillS at h9
          simp only [hlx, if_true] at h9
          cases h9
      obtain ⟨p1, p2⟩ := HN3.out.added HC36.out hkx hFn hFl6 (Nat.le_refl _) (fun i hi => by have := HV5.out i hi; simp at this; omega) (by have := HC3.out.size; omega) (fun i hi => by have := HV5.out i hi; have := HC3.out.size; simp at *; omega) HM.out HG.out
      rw [still_step HOP.out] at p1
      have hC37 : Chg Nowhere w w7 := (HC3.out.trans' HC36.out).trans p2 fun i hi e => by have : i = mc := e; omega
      have hrg7 := ranges_chg (ranges_chg HRG.out HC36.out (not_nowhere _) (not_nowhere _)) p2 (fun e => by have : m = mc := e; omega) (fun e => by
        have e2 : r = mc := e
        obtain ⟨es, clock, since, seen, c0, hb, Fx, hs, hD, hi, rest⟩ := HRG.out
        obtain ⟨D2, _, ⟨es2, ck2, hb2, _⟩, _⟩ := HN3.out.map
        rw [e2, hb2] at hi
        cases hi)
      have HFIN := Lib.hid (show ClIn w m r N D c mc (Maps.size D) S (fun z => left z && !z.sameKey (.int .i64 x)) cnt1 w7 from ⟨hrg7, hC37, ⟨_, _, p1.mono (by omega)⟩, by omega⟩)
      have HOLD := Lib.hid HR.out.rg.left_eq
      clear hFl6 hlx hFn p1 p2 hC37 hrg7
      go_roundw
      case rel => exact ⟨_, _, HFIN⟩
      case measure => rw [HFIN.out.rg.left_eq, HOLD.out]; omega
end Go.Proofs.Ytiijnhgafadokaa
