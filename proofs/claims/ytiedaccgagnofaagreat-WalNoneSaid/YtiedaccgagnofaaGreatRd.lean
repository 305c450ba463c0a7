/- Regions that draw their order: the plan, by number. -/
import Derived.Test.YtiedaccgagnofaaGreatRc
namespace Go.Proofs.YtiedaccgagnofaaGreat
open Go.RowKit

theorem take_snoc {α : Type} {es : List α} {j : Nat} {e : α} (h : es[j]? = some e) : es.take (j + 1) = es.take j ++ [e] := by
  rw [List.take_add_one, h]; rfl
theorem take_len {α : Type} {es : List α} {j : Nat} {e : α} (h : es[j]? = some e) : (es.take j).length = j := by
  have := (List.getElem?_eq_some_iff.1 h).1
  simp; omega
theorem split_at {α : Type} {es : List α} {j : Nat} {e : α} (h : es[j]? = some e) : es = es.take j ++ e :: es.drop (j + 1) := by
  have := (List.getElem?_eq_some_iff.1 h)
  obtain ⟨h1, h2⟩ := this
  rw [← h2, ← List.drop_eq_getElem_cons h1, List.take_append_drop]
theorem take_get {α : Type} {es : List α} {j i : Nat} {x : α} (h : es[i]? = some x) (hij : i < j) : (es.take j)[i]? = some x := by
  rw [List.getElem?_take, if_pos hij]; exact h
theorem get_take {α : Type} {es : List α} {j i : Nat} {x : α} (h : (es.take j)[i]? = some x) : i < j ∧ es[i]? = some x := by
  rw [List.getElem?_take] at h
  split at h
  · exact ⟨by assumption, h⟩
  · cases h

/-! ### Numbers of changes -/
section
variable {es : List Ent} {g0 : List Deferred × LH}

theorem nch_succ {j : Nat} {e : Ent} (h : es[j]? = some e) : nch (es.take (j + 1)) = nch (es.take j) + (if (chOf e).isSome then 1 else 0) := by
  rw [take_snoc h, nch_snoc]
  cases chOf e <;> rfl
theorem nch_mono {j j' : Nat} (h : j ≤ j') : nch (es.take j) ≤ nch (es.take j') := by
  induction j' with
  | zero => have : j = 0 := by omega
            subst this; exact Nat.le_refl _
  | succ n ih =>
    rcases Nat.lt_or_ge j (n + 1) with h1 | h1
    · refine Nat.le_trans (ih (by omega)) ?_
      cases hn : es[n]? with
      | some e => rw [nch_succ hn]; omega
      | none =>
        have := List.getElem?_eq_none_iff.1 hn
        rw [List.take_of_length_le (by omega), List.take_of_length_le (by omega)]
        exact Nat.le_refl _
    · have : j = n + 1 := by omega
      subst this; exact Nat.le_refl _
theorem nch_lt {j j' : Nat} {e : Ent} (h : es[j]? = some e) (hc : (chOf e).isSome = true) (hj : j < j') : nch (es.take j) < nch (es.take j') := by
  have := nch_succ h
  rw [if_pos hc] at this
  have h2 := nch_mono (es := es) (show j + 1 ≤ j' from hj)
  omega
theorem nch_inj {j j' : Nat} {e e' : Ent} (h : es[j]? = some e) (hc : (chOf e).isSome = true) (h' : es[j']? = some e') (hc' : (chOf e').isSome = true) (hn : nch (es.take j) = nch (es.take j')) : j = j' := by
  rcases Nat.lt_trichotomy j j' with k | k | k
  · have := nch_lt h hc k; omega
  · exact k
  · have := nch_lt h' hc' k; omega
theorem nch_find (j : Nat) : ∀ k, k < nch (es.take j) → ∃ j' x, j' < j ∧ es[j']? = some x ∧ (chOf x).isSome = true ∧ nch (es.take j') = k := by
  induction j with
  | zero => intro k hk; simp [nch] at hk
  | succ n ih =>
    intro k hk
    cases hn : es[n]? with
    | none =>
      have := List.getElem?_eq_none_iff.1 hn
      rw [List.take_of_length_le (show es.length ≤ n + 1 by omega)] at hk
      rw [← List.take_of_length_le (show es.length ≤ n by omega)] at hk
      obtain ⟨j', x, g1, g2⟩ := ih k hk
      exact ⟨j', x, by omega, g2⟩
    | some e =>
      rw [nch_succ hn] at hk
      by_cases h1 : k < nch (es.take n)
      · obtain ⟨j', x, g1, g2⟩ := ih k h1
        exact ⟨j', x, by omega, g2⟩
      · split at hk
        · rename_i hc
          exact ⟨n, e, by omega, hn, hc, by omega⟩
        · omega
theorem gs_cur (j : Nat) : (gsOf g0 (es.take j))[nch (es.take j)]? = some (curOf g0 (es.take j)) := by
  induction j with
  | zero => simp [gsOf, nch, curOf]
  | succ n ih =>
    cases hn : es[n]? with
    | none =>
      have := List.getElem?_eq_none_iff.1 hn
      rw [List.take_of_length_le (show es.length ≤ n + 1 by omega)]
      rw [← List.take_of_length_le (show es.length ≤ n by omega)]
      exact ih
    | some e =>
      rw [take_snoc hn, gsOf_snoc, nch_snoc, curOf_snoc]
      cases hc : chOf e with
      | none => simpa using ih
      | some g =>
        have hl := gsOf_length g0 (es.take n)
        simp only [Option.toList_some, Option.getD_some, List.length_cons, List.length_nil]
        rw [List.getElem?_append_right (by omega), hl]
        simp
theorem gs_pre {j k : Nat} (hk : k ≤ nch (es.take j)) : (gsOf g0 es)[k]? = (gsOf g0 (es.take j))[k]? := by
  have h : gsOf g0 es = gsOf g0 (es.take j) ++ (es.drop j).filterMap chOf := by
    simp only [gsOf]
    rw [List.cons_append, ← List.filterMap_append, List.take_append_drop]
  rw [h, List.getElem?_append_left (by rw [gsOf_length]; omega)]
theorem gs_at (j : Nat) : (gsOf g0 es)[nch (es.take j)]? = some (curOf g0 (es.take j)) := by rw [gs_pre (Nat.le_refl _)]; exact gs_cur j
theorem gs_next {j : Nat} {e : Ent} {g : List Deferred × LH} (h : es[j]? = some e) (hc : chOf e = some g) : (gsOf g0 es)[nch (es.take j) + 1]? = some g := by
  have := gs_at (es := es) (g0 := g0) (j + 1)
  rw [nch_succ h, hc, take_snoc h, curOf_snoc, hc] at this
  simpa using this
theorem last_is (j : Nat) : (nch (es.take j) = 0 ∧ lastOf (es.take j) = 0) ∨ ∃ j' x, j' < j ∧ es[j']? = some x ∧ (chOf x).isSome = true ∧ nch (es.take j') + 1 = nch (es.take j) ∧ x.mask = lastOf (es.take j) := by
  induction j with
  | zero => left; simp [nch, lastOf]
  | succ n ih =>
    cases hn : es[n]? with
    | none =>
      have := List.getElem?_eq_none_iff.1 hn
      have he : es.take (n + 1) = es.take n := by rw [List.take_of_length_le (show es.length ≤ n + 1 by omega), List.take_of_length_le (show es.length ≤ n by omega)]
      rw [he]
      rcases ih with h | ⟨j', x, g1, g2⟩
      · exact .inl h
      · exact .inr ⟨j', x, by omega, g2⟩
    | some e =>
      rw [nch_succ hn, take_snoc hn, lastOf_snoc]
      by_cases hc : (chOf e).isSome = true
      · right
        exact ⟨n, e, by omega, hn, hc, by rw [if_pos hc], by rw [if_pos hc]⟩
      · rw [if_neg hc, if_neg hc]
        rcases ih with h | ⟨j', x, g1, g2, g3, g4, g5⟩
        · exact .inl h
        · exact .inr ⟨j', x, by omega, g2, g3, by omega, g5⟩
end

theorem lpairs_at {C : Ctx} {ops : Array Oper} {gs : List (List Deferred × LH)} {G : LH} {e : Ent} : ∀ (l : List Ent) (j0 i : Nat) (x : Ent), lpairs C ops gs G e j0 l = true → l[i]? = some x → lpair C ops gs G e (j0 + i) x = true := by
  intro l
  induction l with
  | nil => intro j0 i x _ h; simp at h
  | cons y l ih =>
    intro j0 i x hl hx
    simp only [lpairs] at hl
    split at hl
    · rename_i hp
      cases i with
      | zero => simp at hx; subst hx; exact hp
      | succ i =>
        have := ih (j0 + 1) i x hl (by simpa using hx)
        rw [show j0 + (i + 1) = j0 + 1 + i by omega]; exact this
    · cases hl

/-! ### A whole plan -/
structure Plan (C : Ctx) (call : LCall) (round : LRound) (m : LMode) (ops : Array Oper) (base : Nat) (T0 : PT Value) (g0 : List Deferred × LH) (es : List Ent) : Prop where
  size : es.length = ops.size
  ent : ∀ j e, es[j]? = some e → EntOk C call round m ops base T0 g0 (es.take j) e

section
variable {C : Ctx} {call : LCall} {round : LRound} {m : LMode} {ops : Array Oper} {base : Nat} {T0 : PT Value} {g0 : List Deferred × LH} {es : List Ent} (hp : Plan C call round m ops base T0 g0 es)
 include hp

theorem Plan.op {j : Nat} {e : Ent} (h : es[j]? = some e) : ops[j]? = some e.o := by
  have := (hp.ent j e h).op
  rwa [take_len h] at this
theorem Plan.edge {j : Nat} {e : Ent} (h : es[j]? = some e) {ed : Edge} (he : ed ∈ e.o.after.toList) (hb : Region.binds .any ed = true) :
    ∃ x, ed.on < j ∧ es[ed.on]? = some x ∧ lbit e.mask ed.on = true ∧ ∀ i, lbit x.mask i = true → lbit e.mask i = true := by
  obtain ⟨x, g1, g2, g3⟩ := (lbits_ok _ _ _ (hp.ent j e h).mask).1 ed he hb
  obtain ⟨k1, k2⟩ := get_take g1
  exact ⟨x, k1, k2, g2, g3⟩
theorem Plan.chain {j : Nat} {e : Ent} (h : es[j]? = some e) {l : Nat} (hl : lbit e.mask l = true) :
    ∃ ed ∈ e.o.after.toList, Region.binds .any ed = true ∧ ∃ x, ed.on < j ∧ es[ed.on]? = some x ∧ (l = ed.on ∨ lbit x.mask l = true) := by
  obtain ⟨ed, g1, g2, x, g3, g4⟩ := (lbits_ok _ _ _ (hp.ent j e h).mask).2 l hl
  obtain ⟨k1, k2⟩ := get_take g3
  exact ⟨ed, g1, g2, x, k1, k2, g4⟩
theorem Plan.back : ∀ {j : Nat} {e : Ent}, es[j]? = some e → ∀ {l : Nat}, lbit e.mask l = true → l < j := by
  intro j
  induction j using Nat.strongRecOn with
  | ind j ih =>
    intro e h l hl
    obtain ⟨ed, _, _, x, g3, g4, g5⟩ := hp.chain h hl
    rcases g5 with rfl | g5
    · exact g3
    · exact Nat.lt_trans (ih _ g3 g4 g5) g3
theorem Plan.trans : ∀ {j : Nat} {e : Ent}, es[j]? = some e → ∀ {l : Nat} {x : Ent}, lbit e.mask l = true → es[l]? = some x → ∀ {i : Nat}, lbit x.mask i = true → lbit e.mask i = true := by
  intro j
  induction j using Nat.strongRecOn with
  | ind j ih =>
    intro e h l x hl hx i hi
    obtain ⟨ed, g1, g2, y, g3, g4, g5⟩ := hp.chain h hl
    obtain ⟨y', _, k2, _, k4⟩ := hp.edge h g1 g2
    rw [g4] at k2; injection k2 with k2; subst k2
    rcases g5 with rfl | g5
    · rw [g4] at hx; injection hx with hx; subst hx
      exact k4 i hi
    · exact k4 i (ih _ g3 g4 g5 hx hi)
theorem Plan.pair {i j : Nat} {x e : Ent} (hx : es[i]? = some x) (h : es[j]? = some e) (hij : i < j) : lpair C ops (gsOf g0 (es.take j)) ((chOf e).getD (curOf g0 (es.take j))).2 e i x = true := by
  have := lpairs_at _ 0 i x (hp.ent j e h).pairs (take_get hx hij)
  rwa [Nat.zero_add] at this
theorem Plan.apart {i j : Nat} {x e : Ent} (hx : es[i]? = some x) (h : es[j]? = some e) (hij : i < j) (hb : lbit e.mask i = false) : x.o.apart ops e.o = true := by
  have := hp.pair hx h hij
  unfold lpair at this
  rw [hb] at this
  simp only at this
  split at this
  · cases this
  · assumption
theorem Plan.number {j : Nat} {e : Ent} (h : es[j]? = some e) {q last : Nat} {fl : List (Nat × LObj)} {D : List Deferred} {H : LH} (hk : e.kind = .change q last fl D H) : q = nch (es.take j) := ((hp.ent j e h).change q last fl D H hk).1
/-- Of two changes the one is behind the other. -/
theorem Plan.total {i j : Nat} {x e : Ent} (hx : es[i]? = some x) (h : es[j]? = some e) (hij : i < j) (hcx : (chOf x).isSome = true) (hce : (chOf e).isSome = true) : lbit e.mask i = true := by
  cases hb : lbit e.mask i with
  | true => rfl
  | false =>
    have := hp.pair hx h hij
    unfold lpair at this
    rw [hb] at this
    simp only at this
    split at this
    · cases this
    · unfold chOf at hcx hce
      split at hcx
      · split at hce
        · rename_i e1 _ _ _ _ _ _ e2
          rw [e1, e2] at this
          cases this
        · cases hce
      · cases hcx
/-- What changes nothing says the same wherever it may come up. -/
theorem Plan.read {j : Nat} {e : Ent} (h : es[j]? = some e) (hk : e.kind = .read) {k : Nat} {g : List Deferred × LH} (hg : (gsOf g0 es)[k]? = some g) (hkn : k ≤ nch es)
    (hc : ∀ j' x, es[j']? = some x → (chOf x).isSome = true → (lbit e.mask j' = true → nch (es.take j') < k) ∧ (lbit x.mask j = true → k ≤ nch (es.take j'))) :
    ∃ H', lop C (LS.eval ⟨e.tmps, [], g.2⟩) g.2 e.o = some (.value e.val, H') := by
  have sees : ∀ G : LH, lsees C e G = true → ∃ H', lop C (LS.eval ⟨e.tmps, [], G⟩) G e.o = some (.value e.val, H') := fun G hs => by
    unfold lsees at hs
    split at hs
    · rename_i v H' hv
      rw [veq_ok _ _ _ hs] at hv
      exact ⟨H', hv⟩
    · cases hs
  have hce : chOf e = none := by unfold chOf; rw [hk]
  rcases Nat.lt_trichotomy k (nch (es.take j)) with h1 | h1 | h1
  · obtain ⟨j', x, g1, g2, g3, g4⟩ := nch_find j k h1
    have hb : lbit e.mask j' = false := by
      cases hb : lbit e.mask j' with
      | false => rfl
      | true => have := (hc j' x g2 g3).1 hb; omega
    have hpr := hp.pair g2 h g1
    unfold lpair at hpr
    rw [hb] at hpr
    simp only at hpr
    split at hpr
    · cases hpr
    · unfold chOf at g3
      split at g3
      · rename_i q l f D H e1
        rw [e1, hk] at hpr
        simp only at hpr
        have hq := hp.number g2 e1
        rw [hq, g4, ← gs_pre (by omega), hg] at hpr
        exact sees _ hpr
      · cases g3
  · subst h1
    rw [gs_at j] at hg
    injection hg with hg
    obtain ⟨_, H', hl⟩ := (hp.ent j e h).read hk
    rw [hg] at hl
    exact ⟨H', by rw [eval_tmps e.tmps [] [] g.2 g0.2]; exact hl⟩
  · obtain ⟨j', x, g1, g2, g3, g4⟩ := nch_find (es := es) es.length (k - 1) (by rw [List.take_length]; omega)
    have hj : j < j' := by
      rcases Nat.lt_trichotomy j j' with q | q | q
      · exact q
      · subst q; rw [h] at g2; injection g2 with g2; subst g2; rw [hce] at g3; cases g3
      · have := nch_lt g2 g3 q; omega
    have hb : lbit x.mask j = false := by
      cases hb : lbit x.mask j with
      | false => rfl
      | true => have := (hc j' x g2 g3).2 hb; omega
    have hpr := hp.pair h g2 hj
    unfold lpair at hpr
    rw [hb] at hpr
    simp only at hpr
    split at hpr
    · cases hpr
    · cases hcx : chOf x with
      | none => rw [hcx] at g3; cases g3
      | some gx =>
        have hn := gs_next (g0 := g0) g2 hcx
        rw [g4, show k - 1 + 1 = k by omega, hg] at hn
        injection hn with hn; subst hn
        rw [hcx] at hpr
        unfold chOf at g3
        split at g3
        · rename_i q l f D H e1
          rw [e1, hk] at hpr
          simp only [Option.getD_some] at hpr
          exact sees _ hpr
        · cases g3
end
end Go.Proofs.YtiedaccgagnofaaGreat
