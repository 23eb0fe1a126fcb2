/-
  The scheduler and the document's: they answer alike.
-/
import Derived.Test.YtiijnhgafadokaaRsG
import Derived.Test.YtiijnhgafadokaaRsH
namespace Go.Proofs.Ytiijnhgafadokaa
open Go.RowKit
set_option linter.unusedVariables false

def key (r : Rec) : Int × Int × List (Int × Int) := (r.c, r.t, r.car)
structure FR (g : Fl) (f : RF) : Prop where
  win : g.win = f.win
  next : g.next = if f.has then f.top + 1 else 0
  recs : g.l.map key = f.l.map key
structure Rel (S : Sch) (R : RSch) : Prop where
  pol : R.pol = if S.pol = 1 then 1 else 0
  last : S.last = R.last
  nd : (R.L.map (·.id)).Nodup
  pos : ∀ f ∈ R.L, 0 ≤ f.id ∧ 0 ≤ f.top
  fl : ∀ f ∈ R.L, ∃ g, S.op f.id = some g ∧ FR g f
  no : ∀ id, (∀ f ∈ R.L, f.id ≠ id) → S.op id = .none
theorem rel_new (p : Int) : Rel (newS p) (newR p) :=
  ⟨rfl, rfl, List.nodup_nil, (fun f h => by cases h), (fun f h => by cases h), fun _ _ => rfl⟩

/-! Rows of records that are alike. -/
def Dep (p : Rec → Bool) : Prop := ∀ a b, key a = key b → p a = p b
theorem fil {p : Rec → Bool} (hp : Dep p) : ∀ {a b : List Rec}, a.map key = b.map key → (a.filter p).map key = (b.filter p).map key
  | [], [], _ => rfl
  | [], b :: bs, h => by simp at h
  | a :: xs, [], h => by simp at h
  | a :: xs, b :: bs, h => by
    simp only [List.map_cons, List.cons.injEq] at h
    rw [List.filter_cons, List.filter_cons, hp a b h.1]
    split
    · simp only [List.map_cons, h.1, fil hp h.2]
    · exact fil hp h.2
theorem len_alike {a b : List Rec} (h : a.map key = b.map key) : a.length = b.length := by
  have := congrArg List.length h
  simpa using this
theorem cars_alike : ∀ {a b : List Rec}, a.map key = b.map key → cars a = cars b
  | [], [], _ => rfl
  | [], b :: bs, h => by simp at h
  | a :: xs, [], h => by simp at h
  | a :: xs, b :: bs, h => by
    simp only [List.map_cons, List.cons.injEq] at h
    have e : a.car = b.car := congrArg (fun x => x.2.2) h.1
    unfold cars
    rw [List.flatMap_cons, List.flatMap_cons, e]
    have := cars_alike h.2
    unfold cars at this
    rw [this]
theorem fold_alike {top now : Int} : ∀ {a b : List Rec} (t : Int), a.map key = b.map key → a.foldl (stepG top now) t = b.foldl (stepG top now) t
  | [], [], _, _ => rfl
  | [], b :: bs, _, h => by simp at h
  | a :: xs, [], _, h => by simp at h
  | a :: xs, b :: bs, t, h => by
    simp only [List.map_cons, List.cons.injEq] at h
    have e1 : a.c = b.c := congrArg (fun x => x.1) h.1
    have e2 : a.t = b.t := congrArg (fun x => x.2.1) h.1
    rw [List.foldl_cons, List.foldl_cons]
    have e : stepG top now t a = stepG top now t b := by unfold stepG; rw [e1, e2]
    rw [e]
    exact fold_alike _ h.2
theorem dep_late (now age : Int) : Dep (lateP now age) := fun a b h => by
  have e : a.t = b.t := congrArg (fun x => x.2.1) h
  unfold lateP; rw [e]
theorem dep_got (top : Int) (l : List (Int × Int)) : Dep (gotP top l) := fun a b h => by
  have e : a.c = b.c := congrArg (fun x => x.1) h
  unfold gotP; rw [e]
theorem dep_far (top : Int) : Dep (farBehind top) := fun a b h => by
  have e : a.c = b.c := congrArg (fun x => x.1) h
  unfold farBehind; rw [e]
theorem dep_not {p : Rec → Bool} (h : Dep p) : Dep fun r => !p r := fun a b e => by simp only [h a b e]

/-! Finding a path. -/
theorem fnd_none' : ∀ {L : List RF} {id : Int}, fnd L id = .none → ∀ f ∈ L, f.id ≠ id
  | [], id, _, f, hf => by cases hf
  | x :: L, id, h, f, hf => by
    rw [fnd] at h
    by_cases e : x.id = id
    · rw [if_pos e] at h; cases h
    · rw [if_neg e] at h
      rcases List.mem_cons.1 hf with rfl | hf
      · exact e
      · cases hq : fnd L id with
        | none => exact fnd_none' hq f hf
        | some j => rw [hq] at h; cases h
theorem Rel.found {S : Sch} {R : RSch} (h : Rel S R) {id : Int} {i : Nat} (hi : fnd R.L id = some i) : ∃ f g, R.L[i]? = some f ∧ f.id = id ∧ S.op id = some g ∧ FR g f := by
  obtain ⟨f, h1, h2⟩ := fnd_some hi
  obtain ⟨g, h3, h4⟩ := h.fl f (List.mem_of_getElem? h1)
  rw [h2] at h3
  exact ⟨f, g, h1, h2, h3, h4⟩
theorem Rel.lost {S : Sch} {R : RSch} (h : Rel S R) {id : Int} (hi : fnd R.L id = .none) : S.op id = .none := h.no id (fnd_none' hi)
theorem id_inj {L : List RF} (h : (L.map (·.id)).Nodup) {a b : Nat} {f g : RF} (ha : L[a]? = some f) (hb : L[b]? = some g) (e : f.id = g.id) : a = b := by
  have ha' : (L.map (·.id))[a]? = some f.id := by rw [List.getElem?_map, ha]; rfl
  have hb' : (L.map (·.id))[b]? = some f.id := by rw [List.getElem?_map, hb, e]; rfl
  obtain ⟨la, ea⟩ := List.getElem?_eq_some_iff.1 ha'
  obtain ⟨lb, eb⟩ := List.getElem?_eq_some_iff.1 hb'
  have hp := List.pairwise_iff_getElem.1 h
  rcases (by omega : a < b ∨ a = b ∨ b < a) with hlt | rfl | hlt
  · exact absurd (ea.trans eb.symm) (hp a b la lb hlt)
  · rfl
  · exact absurd (eb.trans ea.symm) (hp b a lb la hlt)
theorem map_set_id {L : List RF} {i : Nat} {f f' : RF} (hi : L[i]? = some f) (e : f'.id = f.id) : (L.set i f').map (·.id) = L.map (·.id) := by
  rw [List.map_set, e]
  apply List.ext_getElem?
  intro j
  rw [List.getElem?_set]
  by_cases hj : i = j
  · subst hj
    rw [if_pos rfl, List.getElem?_map, hi]
    have := (List.getElem?_eq_some_iff.1 hi).1
    simp [this]
  · rw [if_neg hj]
theorem Rel.set {S : Sch} {R : RSch} (h : Rel S R) {i : Nat} {f f' : RF} {g' : Fl} (hi : R.L[i]? = some f) (e : f'.id = f.id) (ht : 0 ≤ f'.top) (hg : FR g' f') : Rel (setOp S f.id (some g')) { R with L := R.L.set i f' } := by
  have hil := (List.getElem?_eq_some_iff.1 hi).1
  have hmem : ∀ q ∈ R.L.set i f', q = f' ∨ ∃ j, j ≠ i ∧ R.L[j]? = some q := fun q hq => by
    obtain ⟨j, hj⟩ := List.mem_iff_getElem?.1 hq
    rw [List.getElem?_set] at hj
    by_cases ej : i = j
    · rw [if_pos ej, if_pos (by omega)] at hj
      cases hj
      exact .inl rfl
    · rw [if_neg ej] at hj
      exact .inr ⟨j, fun e => ej e.symm, hj⟩
  refine ⟨h.pol, h.last, by show ((R.L.set i f').map (·.id)).Nodup; rw [map_set_id hi e]; exact h.nd, fun q hq => ?_, fun q hq => ?_, fun id hid => ?_⟩
  · rcases hmem q hq with rfl | ⟨j, _, hj⟩
    · exact ⟨e ▸ (h.pos f (List.mem_of_getElem? hi)).1, ht⟩
    · exact h.pos q (List.mem_of_getElem? hj)
  · rcases hmem q hq with rfl | ⟨j, hne, hj⟩
    · exact ⟨g', by rw [e]; exact setOp_at _ _ _, hg⟩
    · obtain ⟨g, h1, h2⟩ := h.fl q (List.mem_of_getElem? hj)
      refine ⟨g, ?_, h2⟩
      unfold setOp
      simp only
      rw [if_neg fun e2 => hne (id_inj h.nd hj hi e2)]
      exact h1
  · have hne : f.id ≠ id := by
      have := hid f' (List.mem_iff_getElem?.2 ⟨i, by rw [List.getElem?_set_self hil]⟩)
      rwa [e] at this
    unfold setOp
    simp only
    rw [if_neg fun e2 => hne e2.symm]
    refine h.no id fun q hq => ?_
    obtain ⟨j, hj⟩ := List.mem_iff_getElem?.1 hq
    by_cases ej : i = j
    · subst ej
      rw [hi] at hj
      cases hj
      exact hne
    · exact hid q (List.mem_iff_getElem?.2 ⟨j, by rw [List.getElem?_set_ne ej]; exact hj⟩)

/-! The calls. -/
theorem Rel.under {S : Sch} {R : RSch} (h : Rel S R) (id : Int) : under S id = underR R id := by
  unfold Go.Proofs.Ytiijnhgafadokaa.under underR
  cases hf : fnd R.L id with
  | none => rw [h.lost hf]
  | some i =>
    obtain ⟨f, g, h1, h2, h3, h4⟩ := h.found hf
    rw [h3]; simp only; rw [h1]
    exact len_alike h4.recs
theorem Rel.window {S : Sch} {R : RSch} (h : Rel S R) (id : Int) : window S id = windowR R id := by
  unfold Go.Proofs.Ytiijnhgafadokaa.window windowR
  cases hf : fnd R.L id with
  | none => rw [h.lost hf]
  | some i =>
    obtain ⟨f, g, h1, h2, h3, h4⟩ := h.found hf
    rw [h3]; simp only; rw [h1]
    exact h4.win
theorem Rel.open {S : Sch} {R : RSch} (h : Rel S R) (id : Int) : Rel (openS S id) (openR R id) := by
  unfold openS openR
  cases hf : fnd R.L id with
  | some i =>
    obtain ⟨f, g, h1, h2, h3, h4⟩ := h.found hf
    rw [h3]
    simp only
    rw [if_neg (by simp)]
    exact h
  | none =>
    have hn := fnd_none' hf
    rw [h.lost hf]
    simp only
    by_cases h0 : 0 ≤ id
    · rw [if_pos h0, if_pos ⟨h0, by trivial⟩]
      refine ⟨h.pol, h.last, ?_, fun q hq => ?_, fun q hq => ?_, fun k hk => ?_⟩
      · show ((R.L ++ [freshF id]).map (·.id)).Nodup
        rw [List.map_append, List.nodup_append]
        refine ⟨h.nd, by simp, fun a ha b hb e => ?_⟩
        obtain ⟨q, hq, rfl⟩ := List.mem_map.1 ha
        simp [freshF] at hb
        exact hn q hq (e.trans hb)
      · rcases List.mem_append.1 hq with hq | hq
        · exact h.pos q hq
        · rw [List.mem_singleton] at hq
          subst hq
          exact ⟨h0, Int.le_refl 0⟩
      · rcases List.mem_append.1 hq with hq | hq
        · obtain ⟨g, h1, h2⟩ := h.fl q hq
          refine ⟨g, ?_, h2⟩
          unfold setOp
          simp only
          rw [if_neg (hn q hq)]
          exact h1
        · rw [List.mem_singleton] at hq
          subst hq
          exact ⟨_, setOp_at _ _ _, ⟨rfl, rfl, rfl⟩⟩
      · have h1 : k ≠ id := fun e => hk (freshF id) (by simp) (by rw [e]; rfl)
        unfold setOp
        simp only
        rw [if_neg h1]
        exact h.no k fun q hq => hk q (by simp [hq])
    · rw [if_neg h0, if_neg (fun hh => h0 hh.1)]
      exact h
theorem Rel.close {S : Sch} {R : RSch} (h : Rel S R) (id : Int) : Rel (closeS S id) (closeR R id) ∧ closeL S id = closeRL R id := by
  unfold closeS closeR closeL closeRL
  cases hf : fnd R.L id with
  | none =>
    rw [h.lost hf]
    exact ⟨h, rfl⟩
  | some i =>
    obtain ⟨f, g, h1, h2, h3, h4⟩ := h.found hf
    have hil := (List.getElem?_eq_some_iff.1 h1).1
    rw [h3]
    simp only
    rw [h1]
    have hsub : (R.L.take i ++ R.L.drop (i + 1)).Sublist R.L := by
      have : R.L.take i ++ R.L.drop (i + 1) = R.L.eraseIdx i := (List.eraseIdx_eq_take_drop_succ R.L i).symm
      rw [this]
      exact List.eraseIdx_sublist ..
    have hne : ∀ q ∈ R.L.take i ++ R.L.drop (i + 1), q.id ≠ id := fun q hq e => by
      obtain ⟨a, ha⟩ := List.mem_iff_getElem?.1 hq
      rw [cut_get hil] at ha
      have := id_inj h.nd ha h1 (e.trans h2.symm)
      split at this <;> omega
    refine ⟨⟨h.pol, h.last, h.nd.sublist (hsub.map _), fun q hq => h.pos q (hsub.subset hq), fun q hq => ?_, fun k hk => ?_⟩, cars_alike h4.recs⟩
    · obtain ⟨g', a, b⟩ := h.fl q (hsub.subset hq)
      refine ⟨g', ?_, b⟩
      unfold setOp
      simp only
      rw [if_neg (hne q hq)]
      exact a
    · unfold setOp
      simp only
      by_cases e : k = id
      · rw [if_pos e]
      · rw [if_neg e]
        refine h.no k fun q hq => ?_
        obtain ⟨j, hj⟩ := List.mem_iff_getElem?.1 hq
        by_cases ej : j = i
        · subst ej
          rw [h1] at hj
          cases hj
          rw [h2]
          exact fun e2 => e e2.symm
        · refine hk q (List.mem_iff_getElem?.2 ⟨if j < i then j else j - 1, ?_⟩)
          show (R.L.take i ++ R.L.drop (i + 1))[_]? = _
          rw [cut_get hil, ← hj]
          congr 1
          by_cases hji : j < i
          · rw [if_pos hji, if_pos hji]
          · rw [if_neg hji, if_neg (by omega)]; omega
theorem Rel.sent {S : Sch} {R : RSch} (h : Rel S R) (id c now : Int) (cv lv cv' : Value) (car : List (Int × Int)) : Rel (sentS S id c now cv car) (sentRS R id c now lv cv' car) := by
  unfold sentS sentRS
  cases hf : fnd R.L id with
  | none =>
    rw [h.lost hf]
    exact h
  | some i =>
    obtain ⟨f, g, h1, h2, h3, h4⟩ := h.found hf
    have hp := (h.pos f (List.mem_of_getElem? h1)).2
    rw [h3]
    simp only
    rw [h1]
    simp only
    have hiff : (c < g.next ∨ 281474976710655 < c) ↔ (c < 0 ∨ 281474976710655 < c ∨ f.has = true ∧ c ≤ f.top) := by
      rw [h4.next]
      cases hb : f.has with
      | true => simp only [if_true, true_and]; omega
      | false => simp
    by_cases hc : c < g.next ∨ 281474976710655 < c
    · rw [if_pos hc, if_pos (hiff.1 hc)]
      exact h
    · have hc2 := fun hh => hc (hiff.2 hh)
      rw [if_neg hc, if_neg hc2, ← h2]
      refine h.set (f' := sentRF f c now lv cv' car) h1 rfl (by show 0 ≤ c; omega) ⟨h4.win, rfl, ?_⟩
      show (g.l ++ [_]).map key = (f.l ++ [_]).map key
      rw [List.map_append, List.map_append, h4.recs]
      rfl
theorem Rel.late {S : Sch} {R : RSch} (h : Rel S R) (id now age : Int) (vl : Value) : Rel (lateS S id now age) (lateRS R id now age vl) ∧ lateL S id now age = lateRL R id now age := by
  unfold lateS lateRS lateL lateRL
  cases hf : fnd R.L id with
  | none =>
    rw [h.lost hf]
    exact ⟨h, rfl⟩
  | some i =>
    obtain ⟨f, g, h1, h2, h3, h4⟩ := h.found hf
    have hp := (h.pos f (List.mem_of_getElem? h1)).2
    have e1 := fil (dep_late now age) h4.recs
    have e2 := fil (dep_not (dep_late now age)) h4.recs
    rw [h3]
    simp only
    rw [h1]
    simp only
    refine ⟨?_, cars_alike e1⟩
    rw [← h2]
    refine h.set (f' := lateRF f now age vl) h1 rfl hp ⟨?_, h4.next, e2⟩
    show (if (g.l.filter (lateP now age)).length = 0 then g.win else max 2 (g.win / 2)) = if (f.l.filter (lateP now age)).length = 0 then f.win else max 2 (f.win / 2)
    rw [len_alike e1, h4.win]
theorem Rel.got {S : Sch} {R : RSch} (h : Rel S R) (id top : Int) (l : List (Int × Int)) (now : Int) (vl : Value) : Rel (gotS S id top l) (gotRS R id top l vl) ∧ gotL S id top l = gotRL R id top l ∧ gotT S id top now = gotRT R id top now := by
  unfold gotS gotRS gotL gotRL gotT gotRT
  cases hf : fnd R.L id with
  | none =>
    rw [h.lost hf]
    exact ⟨h, rfl, rfl⟩
  | some i =>
    obtain ⟨f, g, h1, h2, h3, h4⟩ := h.found hf
    have hp := (h.pos f (List.mem_of_getElem? h1)).2
    have e1 := fil (dep_got top l) h4.recs
    have e2 := fil (dep_not (dep_got top l)) h4.recs
    have e3 := fil (dep_far top) e2
    have e4 := fil (dep_not (dep_far top)) e2
    rw [h3]
    simp only
    rw [h1]
    simp only
    refine ⟨?_, cars_alike e3, fold_alike _ h4.recs⟩
    rw [← h2]
    refine h.set (f' := gotRF f top l vl) h1 rfl hp ⟨?_, h4.next, e4⟩
    show (if ((g.l.filter fun r => !gotP top l r).filter (farBehind top)).length = 0 then min 32 (g.win + ((g.l.filter (gotP top l)).length : Nat)) else max 2 (min 32 (g.win + ((g.l.filter (gotP top l)).length : Nat)) / 2)) =
      if ((f.l.filter fun r => !gotP top l r).filter (farBehind top)).length = 0 then min 32 (f.win + ((f.l.filter (gotP top l)).length : Nat)) else max 2 (min 32 (f.win + ((f.l.filter (gotP top l)).length : Nat)) / 2)
    rw [len_alike e3, len_alike e1, h4.win]
theorem turn_better (last best least id cost : Int) : turnB last best id = better 1 last best least id cost := by
  unfold turnB better
  by_cases h1 : best < 0
  · simp [h1]
  · rw [if_neg h1, if_neg (by simp)]
    cases h2 : decide (last < id) <;> cases h3 : decide (last < best) <;> simp [h1]
theorem pol_better {pol : Int} (hp : pol ≠ 1) (last best least id cost : Int) : (decide (best < 0) || decide (cost < least)) = better pol last best least id cost := by
  unfold better
  by_cases h1 : best < 0
  · simp [h1]
  · rw [if_neg h1, if_pos hp]
    simp [h1]
theorem Rel.pk {S : Sch} {R : RSch} (h : Rel S R) (live rtt : List Int) : ∀ k, (pkTo S live rtt k).1 = (rpTo R live rtt k).1 ∧ (S.pol ≠ 1 → (pkTo S live rtt k).2 = (rpTo R live rtt k).2)
  | 0 => ⟨rfl, fun _ => rfl⟩
  | k + 1 => by
    obtain ⟨i1, i2⟩ := h.pk live rtt k
    rw [pkTo, rpTo]
    cases hk : live[k]? with
    | none => exact ⟨i1, i2⟩
    | some id =>
      simp only
      unfold pkStep rpStep
      cases hf : fnd R.L id with
      | none =>
        rw [h.lost hf]
        exact ⟨i1, i2⟩
      | some i =>
        obtain ⟨f, g, h1, h2, h3, h4⟩ := h.found hf
        rw [h3]
        simp only
        rw [h1]
        simp only
        rw [h4.win, len_alike h4.recs]
        by_cases hw : f.win ≤ (f.l.length : Int)
        · rw [if_pos hw, if_pos hw]; exact ⟨i1, i2⟩
        · rw [if_neg hw, if_neg hw]
          unfold rpIn
          by_cases hp : S.pol = 1
          · have hr : R.pol ≠ 0 := by rw [h.pol, if_pos hp]; decide
            have e : turnB R.last (rpTo R live rtt k).1 id = better S.pol S.last (pkTo S live rtt k).1 (pkTo S live rtt k).2 id ((rtt[k]?).getD 0) := by
              rw [i1, ← h.last, hp]
              exact turn_better _ _ _ _ _
            rw [if_neg hr, e]
            refine ⟨?_, fun hh => absurd hp hh⟩
            by_cases hb : better S.pol S.last (pkTo S live rtt k).1 (pkTo S live rtt k).2 id ((rtt[k]?).getD 0) = true
            · rw [if_pos hb, if_pos hb]
            · rw [if_neg hb, if_neg hb]; exact i1
          · have hr : R.pol = 0 := by rw [h.pol, if_neg hp]
            have e : (decide ((rpTo R live rtt k).1 < 0) || decide (((rtt[k]?).getD 0) < (rpTo R live rtt k).2)) = better S.pol S.last (pkTo S live rtt k).1 (pkTo S live rtt k).2 id ((rtt[k]?).getD 0) := by
              rw [i1, i2 hp]
              exact pol_better hp _ _ _ _ _
            rw [if_pos hr, e]
            by_cases hb : better S.pol S.last (pkTo S live rtt k).1 (pkTo S live rtt k).2 id ((rtt[k]?).getD 0) = true
            · rw [if_pos hb, if_pos hb]; exact ⟨rfl, fun _ => rfl⟩
            · rw [if_neg hb, if_neg hb]; exact ⟨i1, i2⟩
theorem Rel.pick {S : Sch} {R : RSch} (h : Rel S R) (b : Int) : Rel (pickS S b) (pickR R b) := by
  unfold pickS pickR
  split
  · exact h
  · exact ⟨h.pol, rfl, h.nd, h.pos, h.fl, h.no⟩
end Go.Proofs.Ytiijnhgafadokaa
