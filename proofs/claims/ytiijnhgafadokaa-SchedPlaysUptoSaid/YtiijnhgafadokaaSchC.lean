/-
  The scheduler (layer 21): slices.Clone of ranges, Sent.
-/
import Derived.Test.YtiijnhgafadokaaSchB
import Derived.Maps.AppendAt
import Derived.Laws.AppendOwnNone
import Derived.Deep.AppendLies
import Derived.Deep.RegionLaw
import Derived.Lib.SliceRun
namespace Go.Proofs.Ytiijnhgafadokaa
open Go.RowKit
set_option linter.unusedVariables false

theorem infoRng : (Try.prog.info? 49).map (fun i => (i.zero, i.size, i.bytes)) = some (some (.agg #[.int .i64 0, .int .i64 0]), 2, 16) := by kernel_rfl
theorem infoRec : (Try.prog.info? 104).map (fun i => (i.zero, i.size, i.bytes)) = some (some (.agg #[.int .i64 0, .int .i64 0, .slice .none 0 0]), 3, 40) := by kernel_rfl
theorem flat_one' (l : List (Int × Int)) : ∀ y ∈ flat l, y.oneCell' = true := by
  intro y hy
  obtain ⟨q, _, hq⟩ := List.mem_flatMap.1 hy
  simp [rcells] at hq
  rcases hq with rfl | rfl <;> rfl
def CloneRTo (w : World) (l : List (Int × Int)) (e : Ending) (w' : World) : Prop :=
  ∃ v, e = .returned v ∧ w'.ownsRow 0 49 2 v l.length (flat l) ∧ Chg Nowhere w w' ∧ ∀ i, v.ownBlock = some i → w.heap.size ≤ i
set_option maxHeartbeats 800000 in
set_option maxRecDepth 100000 in
theorem cloneR_any (v : Value) (l : List (Int × Int)) (w : World) (h : Rd w v 2 l.length (flat l)) (hl : l.length ≤ 2000000) :
    Calls Try.prog 73 #[v] w (CloneRTo w l) := by
  obtain ⟨i0, hi, hz0, hz1, hz2⟩ := info_parts infoRng
  obtain ⟨-, A, cap, rfl, hcap, hA⟩ := h
  cases A with
  | none =>
    have h0 : l = [] := by
      cases l with
      | nil => rfl
      | cons r l => obtain ⟨g, o, e, _⟩ := hA (by simp); cases e
    subst h0
    clear hA
    have hnl := Lib.run_eql_slice_nil (P := Try.prog) w 45 49 .none 0 cap 0 0 Try.underlying45
    go_enter Try.func73, Try.ntmps73
    go_wp2_with fail
    go_ret
    exact ⟨_, rfl, World.ownsRow_nil _ _ _ _, Chg.refl _ _, fun i hi => by cases hi⟩
  | some ad =>
    have hn : ∀ j u, (flat l)[j]? = some u → (w.alloc (.cells #[] 49)).cell? (ad.add j) = some u := by
      intro j u hj
      have hlt : j < (flat l).length := (List.getElem?_eq_some_iff.1 hj).1
      have hll := flat_len l
      obtain ⟨g, o, e, hg, hc⟩ := hA (by omega)
      cases e
      have : (⟨g, o, .none⟩ : Addr).add j = ⟨g, o + j, .none⟩ := by unfold Addr.add; split <;> simp_all
      rw [this]
      exact (((Chg.refl Nowhere w).alloc _).cell (p := ⟨g, o + j, .none⟩) hg (not_nowhere _)).trans ((hc j hlt).trans hj)
    have HN := Lib.hid hn
    have hO0 := Lib.hid (World.ownsRow_lit (base := 0) (e := 49) (size := 2) w #[] 0 (by omega) (by unfold maxLen; omega) rfl)
    clear hn hA
    have hnl := Lib.run_eql_slice_nil (P := Try.prog) w 45 49 (some ad) l.length cap 0 0 Try.underlying45
    go_enter Try.func73, Try.ntmps73
    go_wp2_with (at_builtin; refine wpList_append_own_at _ rfl _ _ 45 rfl 0 49 i0 (.agg #[.int .i64 0, .int .i64 0]) 2 16 Try.underlying45 hi hz0 hz1 hz2 rfl (by decide) (.slice (some ⟨w.heap.size, 0, .none⟩) 0 0) 0 [] rfl hO0.out ad l.length cap (flat l) rfl (flat_len l) HN.out (flat_one' l) (by unfold maxLen; omega) (by omega) (by omega) ?_; intro v' w3 hown' hgrow3 hnil3 hob; have HO' := Lib.hid hown'; have HB := Lib.hid hob; have HG := Lib.hid hgrow3; clear hown' hob hnil3 hgrow3)
    go_ret
    have A1 : (w.alloc (.cells #[] 49)).heap.size = w.heap.size + 1 := by simp
    have ho := HO'.out
    rw [Nat.zero_add, List.nil_append] at ho
    refine ⟨v', rfl, ho, ((Chg.refl _ w).alloc _).grown HG.out (fun k hk => .inl (by simp [Value.ownBlock] at hk; omega)), fun i hi => ?_⟩
    rcases HB.out with e | e <;> rw [e] at hi
    · simp [Value.ownBlock] at hi; omega
    · rw [A1] at hi; injection hi; omega

def sentS (S : Sch) (k c now : Int) (cv : Value) (car : List (Int × Int)) : Sch := match S.op k with
  | some f => if c < f.next ∨ 281474976710655 < c then S else setOp S k (some ⟨f.win, c + 1, f.l ++ [⟨c, mom21 now, cv, car⟩]⟩)
  | .none => S
def SentTo (Z : Nat → Prop) (w : World) (s N : Nat) (S : Sch) (k c now : Int) (car : List (Int × Int)) (e : Ending) (w' : World) : Prop :=
  ∃ cv, e = .returned (.tuple #[]) ∧ SchIs Z w' s N (sentS S k c now cv car) ∧ ChgZ Z w w'
/-- Where one flight alone is another one. -/
theorem SchAt.turn {Z : Nat → Prop} {w w' : World} {s m N : Nat} {F : Int → Option Nat} {V : Int → Value} {S : Sch} (h : SchAt Z w s m N F V S) {k : Int} {g : Nat} (hg : F k = some g) {v' : Value} {f' : Fl}
    (hC : Chg (fun i => i = g ∨ (V k).ownBlock = some i) w w') (hF : FlAt w' g v' f') (hv : ∀ i, v'.ownBlock = some i → (V k).ownBlock = some i ∨ w.heap.size ≤ i ∧ Z i) :
    SchAt Z w' s m N F (fun x => if x = k then v' else V x) (setOp S k (some f')) ∧ ChgZ Z w w' := by
  obtain ⟨f, hop, hf⟩ := h.fl k g hg
  have hm : ∀ i, (i = g ∨ (V k).ownBlock = some i) → Z i ∧ Mine w i := by
    rintro i (rfl | hi)
    · exact ⟨h.zg _ _ hg, hf.mine⟩
    · exact ⟨h.zr _ _ _ hg hi, hf.rowMine hi⟩
  have hs : ¬ (s = g ∨ (V k).ownBlock = some s) := by
    rintro (e | e)
    · have h1 := h.blk; rw [e, hf.blk] at h1
      simp only [Option.some.injEq, Obj.cells.injEq] at h1
      exact absurd h1.2.1 (by decide)
    · obtain ⟨cur, hh⟩ := own_blk hf.row e
      rw [h.blk] at hh
      simp only [Option.some.injEq, Obj.cells.injEq] at hh
      exact absurd hh.2.1 (by decide)
  have hmm : ¬ (m = g ∨ (V k).ownBlock = some m) := by
    rintro (e | e)
    · exact h.notMap hf.blk e.symm
    · obtain ⟨cur, hh⟩ := own_blk hf.row e
      exact h.notMap hh rfl
  refine ⟨⟨hC.keep h.blk hs, h.map.keep (hC.block m h.map.lt hmm), fun k' g' hk' => ?_, fun k' hk' => ?_, h.inj, fun k1 k2 g1 g2 r h1 h2 r1 r2 => ?_, h.zs, h.zm, h.zg, fun k' g' r hk' hr => ?_, h.key⟩, ChgZ.of hC fun i _ hi => hm i hi⟩
  · by_cases e : k' = k
    · subst e
      rw [hg] at hk'; cases hk'
      exact ⟨f', if_pos rfl, by rw [if_pos rfl]; exact hF⟩
    · obtain ⟨f1, hop1, hf1⟩ := h.fl k' g' hk'
      refine ⟨f1, by unfold setOp; simp only; rw [if_neg e]; exact hop1, ?_⟩
      rw [if_neg e]
      refine hf1.chg hC (fun i hi => (hm i hi).2) ?_ fun i hi => ?_
      · rintro (e1 | e1)
        · exact e (h.inj _ _ _ hk' (e1 ▸ hg))
        · obtain ⟨cur, hh⟩ := own_blk hf.row e1
          rw [hf1.blk] at hh
          simp only [Option.some.injEq, Obj.cells.injEq] at hh
          exact absurd hh.2.1 (by decide)
      · rintro (rfl | e1)
        · obtain ⟨cur, hh⟩ := own_blk hf1.row hi
          rw [hf.blk] at hh
          simp only [Option.some.injEq, Obj.cells.injEq] at hh
          exact absurd hh.2.1 (by decide)
        · exact e (h.rows _ _ _ _ _ hk' hg hi e1)
  · unfold setOp; simp only
    rw [if_neg (fun e => by rw [e, hg] at hk'; cases hk')]
    exact h.no k' hk'
  · have key : ∀ k' g' r, F k' = some g' → k' ≠ k → (V k').ownBlock = some r → v'.ownBlock = some r → False := fun k' g' r hk' hne hr hr' => by
      rcases hv r hr' with h3 | ⟨h3, _⟩
      · exact hne (h.rows _ _ _ _ _ hk' hg hr h3)
      · obtain ⟨f1, _, hf1⟩ := h.fl k' g' hk'
        have := (hf1.row.lt r hr).2
        omega
    by_cases e1 : k1 = k <;> by_cases e2 : k2 = k
    · rw [e1, e2]
    · rw [if_pos e1] at r1; rw [if_neg e2] at r2; exact (key _ _ _ h2 e2 r2 r1).elim
    · rw [if_neg e1] at r1; rw [if_pos e2] at r2; exact (key _ _ _ h1 e1 r1 r2).elim
    · rw [if_neg e1] at r1; rw [if_neg e2] at r2; exact h.rows _ _ _ _ _ h1 h2 r1 r2
  · by_cases e : k' = k
    · rw [if_pos e] at hr
      rcases hv r hr with h3 | ⟨_, h3⟩
      · exact h.zr _ _ _ hg h3
      · exact h3
    · rw [if_neg e] at hr; exact h.zr _ _ _ hk' hr
theorem rcl_append (l m : List Rec) : rcl (l ++ m) = rcl l ++ rcl m := by simp [rcl]
theorem types_ne {w : World} {i j : Nat} {a b : Array Value} {t u : Nat} (h1 : w.heap[i]? = some (.cells a t (0,0))) (h2 : w.heap[j]? = some (.cells b u (0,0))) (h : t ≠ u) : i ≠ j := by
  rintro rfl
  rw [h1] at h2
  simp only [Option.some.injEq, Obj.cells.injEq] at h2
  exact h h2.2.1
/-- A flight whose row has grown by one record. -/
theorem SchAt.sent {Z : Nat → Prop} {w w4 : World} {s m N : Nat} {F : Int → Option Nat} {V : Int → Value} {S : Sch} (h : SchAt Z w s m N F V S) {k : Int} {g : Nat} (hg : F k = some g) {f : Fl} (hop : S.op k = some f)
    {v' : Value} {c : Int} {r : Rec} (hc0 : f.next ≤ c) (hc1 : c ≤ 281474976710655) (hlen : f.l.length < 100000)
    (hC : Chg (fun i => i = g ∨ (V k).ownBlock = some i) w w4) (hb : w4.heap[g]? = some (.cells #[.int .i64 f.win, .int .i64 (c + 1), V k] 101 (0,0)))
    (hrow : w4.ownsRow 0 104 3 v' (f.l.length + 1) (rcl f.l ++ [.int .i64 r.c, .int .i64 r.t, r.cv])) (hr : RecOk w4 r)
    (hv : ∀ i, v'.ownBlock = some i → (V k).ownBlock = some i ∨ w.heap.size ≤ i ∧ Z i) :
    SchAt Z (w4.setCell ⟨g, 2, .none⟩ v') s m N F (fun x => if x = k then v' else V x) (setOp S k (some ⟨f.win, c + 1, f.l ++ [r]⟩)) ∧ ChgZ Z w (w4.setCell ⟨g, 2, .none⟩ v') := by
  obtain ⟨f0, hop0, hf⟩ := h.fl k g hg
  rw [hop] at hop0
  cases hop0
  have hS : ∀ i, i = g ∨ (V k).ownBlock = some i → Mine w i := by
    rintro i (rfl | hi)
    · exact hf.mine
    · exact hf.rowMine hi
  have hC5 : Chg (At g) w4 (w4.setCell ⟨g, 2, .none⟩ v') := (Chg.refl _ _).putAt
  have hM5 : ∀ i, At g i → Mine w4 i := fun i hi => by rw [show i = g from hi]; exact .inl ⟨_, _, _, hb, .inr (.inl rfl)⟩
  refine h.turn hg (hC.put (.inl (.inl rfl))) ⟨by rw [set_blk _ hb]; rfl, ?_, fun q hq => ?_, by simp; omega, hf.win0, ⟨by have := hf.next0; show 0 ≤ c + 1; omega, by show c + 1 ≤ _; omega⟩⟩ hv
  · rw [rcl_append, List.length_append]
    exact own_chg hrow hC5 fun i hi e => by
      obtain ⟨cur, hh⟩ := own_blk hrow hi
      exact types_ne hb hh (by decide) (show i = g from e).symm
  · rcases List.mem_append.1 hq with hq | hq
    · exact ((hf.recs q hq).chg hC hS).chg hC5 hM5
    · obtain rfl := List.mem_singleton.1 hq
      exact hr.chg hC5 hM5
set_option maxHeartbeats 1600000 in
set_option maxRecDepth 100000 in
theorem sent_any (Z : Nat → Prop) (w : World) (s N : Nat) (S : Sch) (h : SchIs Z w s N S) (hZ : ∀ i, w.heap.size ≤ i → Z i) (k c now : Int) (hk : InI k) (vc : Value) (car : List (Int × Int)) (hR : Rd w vc 2 car.length (flat car)) (hcl : car.length ≤ 2000000)
    (hsep : ∀ g o n c', vc = .slice (some ⟨g, o, .none⟩) n c' → ¬ (Z g ∧ Mine w g)) (hlen : under S k < 100000) :
    Calls Try.prog 45 #[.pointer (some ⟨s, 0, .none⟩), .int .i64 k, .int .i64 c, .int .i64 now, vc] w (SentTo Z w s N S k c now car) := by
  obtain ⟨i0, hi, hz0, hz1, hz2⟩ := info_parts infoRec
  have HI := Lib.hid h
  obtain ⟨m, F, V, h⟩ := h
  have H := Lib.hid h
  have HZ := Lib.hid hZ
  have HR := Lib.hid hR
  have HSep := Lib.hid hsep
  have hlk := h.map.look hk
  have cs : w.cell? ⟨s, 2, .none⟩ = some (.map (some m)) := by rw [cell_blk h.blk]; rfl
  obtain ⟨-, Ac, capc, rfl, -, -⟩ := hR
  cases hf : F k with
  | none =>
    rw [hf] at hlk
    simp only [lookV] at hlk
    have E := Lib.hid (show ∀ cv, sentS S k c now cv car = S by intro cv; unfold sentS; rw [h.no k hf])
    clear h hf hZ hsep hk
    go_enter Try.func45, Try.ntmps45
    go_wp2_with fail
    refine bodyPost_ret (results_none rfl _ _ _) rfl ?_
    exact ⟨.slice .none 0 0, rfl, by rw [E.out]; exact HI.out, ChgZ.refl _ _⟩
  | some g =>
    obtain ⟨f, hop, hF⟩ := h.fl k g hf
    rw [hf] at hlk
    simp only [lookV] at hlk
    have HK := Lib.hid hf
    have HOP := Lib.hid hop
    have HF := Lib.hid hF
    have c1 : w.cell? ⟨g, 1, .none⟩ = some (.int .i64 f.next) := by rw [cell_blk hF.blk]; rfl
    have c2 : w.cell? ⟨g, 2, .none⟩ = some (V k) := by rw [cell_blk hF.blk]; rfl
    have fz : ∀ o, w.frozen? ⟨g, o, .none⟩ = false := fun o => frozen_blk hF.blk
    have f1 := fz 1
    obtain ⟨-, A, cp, hv, -, -⟩ := Rd.of_owns hF.row
    have HV := Lib.hid hv
    have hgl := lt_blk hF.blk
    have hnx := hF.next0
    have hl : f.l.length < 100000 := by unfold under at hlen; rw [hop] at hlen; exact hlen
    by_cases hc0 : c < f.next
    · have E := Lib.hid (show ∀ cv, sentS S k c now cv car = S by intro cv; unfold sentS; rw [hop]; exact if_pos (.inl hc0))
      clear h hf hZ hsep hk fz hop hF hv
      go_enter Try.func45, Try.ntmps45
      go_wp2_with fail
      refine bodyPost_ret (results_none rfl _ _ _) rfl ?_
      exact ⟨.slice .none 0 0, rfl, by rw [E.out]; exact HI.out, ChgZ.refl _ _⟩
    · by_cases hc1 : 281474976710655 < c
      · have E := Lib.hid (show ∀ cv, sentS S k c now cv car = S by intro cv; unfold sentS; rw [hop]; exact if_pos (.inr hc1))
        clear h hf hZ hsep hk fz hop hF hv
        go_enter Try.func45, Try.ntmps45
        go_wp2_with fail
        refine bodyPost_ret (results_none rfl _ _ _) rfl ?_
        exact ⟨.slice .none 0 0, rfl, by rw [E.out]; exact HI.out, ChgZ.refl _ _⟩
      · have E := Lib.hid (show ∀ cv, sentS S k c now cv car = setOp S k (some ⟨f.win, c + 1, f.l ++ [⟨c, mom21 now, cv, car⟩]⟩) by intro cv; unfold sentS; rw [hop]; exact if_neg (by omega))
        clear h hf hZ hsep hk fz hop hF hv
        go_enter Try.func45, Try.ntmps45
        go_wp2_with fail
        have HCA := Lib.hid (show Chg (At g) w (w.setCell ⟨g, 1, .none⟩ (.int .i64 (c + 1))).drew from ((Chg.refl (At g) w).putAt).drew)
        have HR2 := Lib.hid (HR.out.mono HCA.out (fun g' o c' e e2 => HSep.out g' o _ c' e (by rw [show g' = g from e2]; exact ⟨H.out.zg _ _ HK.out, HF.out.mine⟩)))
        have HBA := Lib.hid (show (w.setCell ⟨g, 1, .none⟩ (.int .i64 (c + 1))).drew.heap[g]? = some (.cells #[.int .i64 f.win, .int .i64 (c + 1), V k] 101 (0,0)) by
          show (w.setCell ⟨g, 1, .none⟩ (.int .i64 (c + 1))).heap[g]? = _
          rw [set_blk _ HF.out.blk]; rfl)
        have HOA := Lib.hid (own_chg HF.out.row HCA.out (fun i hi e => HF.out.apart (by rw [hi, show i = g from e])))
        have hrl : (rcl f.l).length = f.l.length * 3 := HF.out.row.1
        go_region_law (first
          | (refine step_append_lies _ (by rfl) _ _ _ (by rfl) 0 104 i0 _ 3 40 Try.underlying99 hi hz0 hz1 hz2 rfl (by omega) (V k) f.l.length (rcl f.l) (by rfl) (HO3.out.alloc _) ⟨w3.heap.size, 0, .none⟩ 1 1 [.int .i64 c, .int .i64 (mom21 now), .slice Av car.length cpv] (by rfl) (by rfl) (World.news_of_block (cs := #[.int .i64 c, .int .i64 (mom21 now), .slice Av car.length cpv]) (t := 104) (fr := (0, 0)) (heap_alloc_new w3 _)) (by simp [Value.oneCell']) (by omega) (by unfold maxLen; omega) (by omega) (by omega) (w3.heap.size + 1) (by simp) ?_; intro gg cap4 w4 hown4 hgrow4 hat4 hlt4; have B4 := (hgrow4.block g (by have := lt_blk HB3.out; simp; omega) (fun e => HF.out.apart e.symm)).trans (alloc_old HB3.out); have f4 : w4.frozen? ⟨g, 2, .none⟩ = false := frozen_blk B4; have c4 := cell_blk (o := 2) B4; have HB4 := Lib.hid B4; have HO4 := Lib.hid hown4; have HG4 := Lib.hid hgrow4; have HAT := Lib.hid hat4; clear B4 hown4 hgrow4 hat4)
          | (go_simp; go_at_call 72; refine (mom21_any _ _).mono ?_; rintro e w' ⟨rfl, rfl⟩)
          | (go_simp; go_at_call 73; refine (cloneR_any _ car _ HR2.out (by omega)).mono ?_; rintro e w3 ⟨cv, rfl, hcv, hC3, hcv2⟩; obtain ⟨-, Av, cpv, rfl, -, -⟩ := Rd.of_owns hcv; have HB3 := Lib.hid (hC3.same HBA.out); have c3 := cell_blk (o := 2) HB3.out; have hg3 := lt_blk HB3.out; have HO3 := Lib.hid (own_chg HOA.out hC3 (fun _ _ => not_nowhere _)); have HCV := Lib.hid hcv; have HC3 := Lib.hid hC3; clear hcv hC3 hcv2))
        all_goals
          go_end0
          have h2 : Chg (fun i => i = g ∨ (V k).ownBlock = some i) w w3 := (HCA.out.mono (fun i _ e => Or.inl e)).then_none HC3.out
          have h3 := (h2.alloc (.cells #[.int .i64 c, .int .i64 (mom21 now), .slice Av car.length cpv] 104)).grown HG4.out (fun k' hk' => .inr (.inr hk'))
          have hcv4 := own_chg HCV.out (((Chg.refl (fun i => (V k).ownBlock = some i) w3).alloc (.cells #[.int .i64 c, .int .i64 (mom21 now), .slice Av car.length cpv] 104)).grown HG4.out (fun k' hk' => .inr hk')) (fun i hi e => by
            obtain ⟨cur1, hh1⟩ := own_blk HCV.out hi
            obtain ⟨cur2, hh2⟩ := own_blk HO3.out e
            exact types_ne hh1 hh2 (by decide) rfl)
          have hsz := h2.size
          have fin := H.out.sent HK.out HOP.out (r := ⟨c, mom21 now, .slice Av car.length cpv, car⟩) (by omega) (by omega) hl h3 HB4.out HO4.out ⟨hcv4, ⟨by show 0 ≤ c; omega, by show c ≤ _; omega⟩, mom21_in now, hcl⟩ (fun i hi => by
            obtain rfl : gg = i := by simpa [Value.ownBlock] using hi
            rcases HAT.out with e | e
            · exact .inl e
            · exact .inr ⟨by omega, HZ.out _ (by omega)⟩)
          exact ⟨_, rfl, by rw [E.out]; exact ⟨_, _, _, fin.1⟩, fin.2⟩
end Go.Proofs.Ytiijnhgafadokaa
