/- Regions that draw their order: one operation more. -/
import Derived.Test.YtiedaccgagnofaaGreatRf
namespace Go.Proofs.YtiedaccgagnofaaGreat
open Go.RowKit

theorem Kept.trans {F w0 : Fr} {w : World} (h0 : Kept w0 F.w) (hk : ∀ b, w0.keep b → F.keep b) (h : Kept F w) : Kept w0 w :=
  ⟨h.os.trans h0.os, h.tape.trans h0.tape, h.output.trans h0.output, Nat.le_trans h0.size h.size, fun b hb => (h.block b (hk b hb)).trans (h0.block b hb)⟩
theorem lbit_of {b : Bool} (h : ¬ b = true) : b = false := by cases b <;> simp_all
theorem chOf_some {e : Ent} {g : List Deferred × LH} (h : chOf e = some g) : ∃ q last fl, e.kind = .change q last fl g.1 g.2 := by
  unfold chOf at h
  split at h
  · injection h with h; subst h; exact ⟨_, _, _, by assumption⟩
  · cases h
theorem last_uniq {es : List Ent} {k a b : Nat} (h : LastIs es k a) (h' : LastIs es k b) : a = b := by
  rcases h with ⟨h1, h2⟩ | ⟨j, x, h1, h2, h3, h4⟩
  · rcases h' with ⟨g1, g2⟩ | ⟨j', x', g1, g2, g3, g4⟩
    · rw [h2, g2]
    · omega
  · rcases h' with ⟨g1, g2⟩ | ⟨j', x', g1, g2, g3, g4⟩
    · omega
    · have := nch_inj h1 h2 g1 g2 (by omega)
      subst this
      rw [h1] at g1; injection g1 with g1; subst g1
      rw [← h4, g4]

section
variable {C : Ctx} (hC : C.Sound) {call : LCall} {round : LRound} (hcall : CallOk C call) (hround : RoundOk C round) {m : LMode} {ops : Array Oper} {base n : Nat} {T0 : PT Value} {g0 : List Deferred × LH} {es : List Ent} (hp : Plan C call round m ops base T0 g0 es)
  (hok : ∀ o ∈ ops, operOk n o = true) (hn : n ≤ lmax) {w0 : Fr} {S : Nat → Bool} {k mk : Nat} {R : Ren} {F : Fr} {a : Act} {w : World} {i : Nat} {e : Ent}
  (hinv : DInv base n T0 g0 es w0 S k mk R F a w) (h : es[i]? = some e) (hi : S i = false) (hpre : ∀ l, lbit e.mask l = true → S l = true)

 include h hpre in
theorem closed_upd (hinv : DInv base n T0 g0 es w0 S k mk R F a w) : ∀ j x, es[j]? = some x → upd S i j = true → ∀ l, lbit x.mask l = true → upd S i l = true := fun j x hx hs l hl => by
  by_cases q : j = i
  · subst q; rw [h] at hx; injection hx with hx; subst hx; exact upd_mono S _ (hpre l hl)
  · rw [upd_ne S q] at hs; exact upd_mono S _ (hinv.closed j x hx hs l hl)

 include hp hok hn hinv h hi hpre in
/-- An operation without change, or one not wanted. -/
theorem dinv_quiet (hch : chOf e = none) (hfl : ∀ o, e.kind ≠ .float o) {R' : Ren} (hR : R.le R') {w' : World} {v' : Value} (hv : VRel R' e.val v')
    (hrel : ∀ g, (gsOf g0 es)[k]? = some g → HRel R F g.2 w → HRel R' F g.2 w') : DInv base n T0 g0 es w0 (upd S i) k mk R' F (a.put e.o.dst v') w' := by
  obtain ⟨t1, t2⟩ := tmps_upd hp hok hn hinv h hi hR hv a.defers
  obtain ⟨g, hg, hr, hd⟩ := hinv.rel
  have hr' := hrel g hg hr
  have hni : ∀ j x, es[j]? = some x → (chOf x).isSome = true → j ≠ i := fun j x hx hc q => by
    subst q; rw [h] at hx; injection hx with hx; subst hx; rw [hch] at hc; cases hc
  have hnf : ∀ j x o, es[j]? = some x → x.kind = .float o → j ≠ i := fun j x o hx hc q => by
    subst q; rw [h] at hx; injection hx with hx; subst hx; exact hfl _ hc
  have hblock : ∀ b, F.keep b → w'.heap[b]? = w.heap[b]? := fun b hb => (hr'.below.block b hb).trans (hr.below.block b hb).symm
  refine ⟨closed_upd h hpre hinv, fun j x hx hc => ?_, hinv.le, hinv.last, ⟨g, hg, hr', ?_⟩, t1, t2, hinv.keep, hinv.kept, hinv.hole0, fun j x o hx hk hs => ?_, fun j x o hx hk hs hb => ?_, fun j j' x x' o o' p q hx hx' hk hk' hs hs' hb hb' hj hpj hpj' => ?_⟩
  · rw [upd_ne S (hni j x hx hc)]; exact hinv.count j x hx hc
  · cases hdst : e.o.dst <;> exact hd.mono hR
  · rw [upd_ne S (hnf j x o hx hk)] at hs; exact hinv.holes j x o hx hk hs
  · rw [upd_ne S (hnf j x o hx hk)] at hs
    obtain ⟨p, h1, h2, h3, h4⟩ := hinv.pend j x o hx hk hs hb
    exact ⟨p, hR _ _ h1, h2, h3, h4.keep hR (hblock _ h2)⟩
  · rw [upd_ne S (hnf j x o hx hk)] at hs
    rw [upd_ne S (hnf j' x' o' hx' hk')] at hs'
    obtain ⟨p1, h1, _⟩ := hinv.pend j x o hx hk hs hb
    obtain ⟨q1, h2, _⟩ := hinv.pend j' x' o' hx' hk' hs' hb'
    rw [hR _ _ h1] at hpj; injection hpj with hpj; subst hpj
    rw [hR _ _ h2] at hpj'; injection hpj' with hpj'; subst hpj'
    exact hinv.dist j j' x x' o o' p1 q1 hx hx' hk hk' hs hs' hb hb' hj h1 h2

 include hp hok hn hinv h hi hpre in
/-- A new object. -/
theorem dinv_float {obj : LObj} (hk : e.kind = .float obj) {x : Obj} {p : Place} (hpb : p.block = w.heap.size) {v' : Value} (hv : VRel (R.add (base + i) p) e.val v')
    (ho : Holds (R.add (base + i) p) (w.alloc x) p obj) :
    DInv base n T0 g0 es w0 (upd S i) k mk (R.add (base + i) p) (F.grow (w.alloc x) p.block (base + i)) (a.put e.o.dst v') (w.alloc x) := by
  obtain ⟨g, hg, hr, hd⟩ := hinv.rel
  have hhole := hinv.holes i e obj h hk hi
  have hr2 := (hr.holes _ hhole).2
  have hR : R.le (R.add (base + i) p) := Ren.le_add p hr2
  obtain ⟨t1, t2⟩ := tmps_upd hp hok hn hinv h hi hR hv a.defers
  have hch : chOf e = none := by unfold chOf; rw [hk]
  have hni : ∀ j x, es[j]? = some x → (chOf x).isSome = true → j ≠ i := fun j x hx hc q => by
    subst q; rw [h] at hx; injection hx with hx; subst hx; rw [hch] at hc; cases hc
  have hadd : ∀ j, j ≠ i → R.add (base + i) p (base + j) = R (base + j) := fun j q => by unfold Ren.add; rw [if_neg (by omega)]
  have hsz : (w.alloc x).heap.size = w.heap.size + 1 := by simp
  have hF := hr.below.size
  have hw0 := hinv.kept.size
  have hkw : Kept w0 w := hinv.kept.trans hinv.keep hr.below
  refine ⟨closed_upd h hpre hinv, fun j x hx hc => ?_, hinv.le, hinv.last, ⟨g, hg, hr.float hhole hpb, ?_⟩, t1, t2, fun b hb => ⟨?_, .inl (hinv.keep b hb)⟩, hkw.alloc x, fun id hid => ?_, fun j x o hx hkj hs => ?_, fun j x o hx hkj hs hb => ?_, fun j j' x x' o o' q q' hx hx' hkj hkj' hs hs' hb hb' hj hpj hpj' => ?_⟩
  · rw [upd_ne S (hni j x hx hc)]; exact hinv.count j x hx hc
  · cases hdst : e.o.dst <;> exact hd.mono hR
  · have := F.lt b (hinv.keep b hb); omega
  · obtain ⟨h1, h2⟩ := hinv.hole0 id hid
    exact ⟨⟨h1, by omega⟩, h2⟩
  · have hji : j ≠ i := fun q => by subst q; rw [upd_self] at hs; cases hs
    rw [upd_ne S hji] at hs
    exact ⟨hinv.holes j x o hx hkj hs, by omega⟩
  · by_cases q : j = i
    · subst q
      rw [h] at hx; injection hx with hx; subst hx
      rw [hk] at hkj; injection hkj with hkj; subst hkj
      refine ⟨p, Ren.add_self _ _ _, ⟨by omega, .inr rfl⟩, fun hb' => ?_, ho⟩
      have := w0.lt _ hb'; omega
    · rw [upd_ne S q] at hs
      obtain ⟨p1, h1, h2, h3, h4⟩ := hinv.pend j x o hx hkj hs hb
      exact ⟨p1, hR _ _ h1, ⟨by have := h4.lt; omega, .inl h2⟩, h3, h4.keep hR (Below.heap_alloc _ _ _ h4.lt)⟩
  · have old : ∀ l y o q, l ≠ i → es[l]? = some y → y.kind = .float o → upd S i l = true → lbit mk l = false → R.add (base + i) p (base + l) = some q → q.block < w.heap.size := fun l y o q hl hy hky hsl hbl hq => by
      rw [upd_ne S hl] at hsl
      obtain ⟨p1, h1, _, _, h4⟩ := hinv.pend l y o hy hky hsl hbl
      rw [hadd l hl, h1] at hq; injection hq with hq; subst hq
      exact h4.lt
    by_cases q1 : j = i
    · subst q1
      rw [Ren.add_self] at hpj; injection hpj with hpj; subst hpj
      have := old j' x' o' q' (Ne.symm hj) hx' hkj' hs' hb' hpj'
      omega
    · by_cases q2 : j' = i
      · subst q2
        rw [Ren.add_self] at hpj'; injection hpj' with hpj'; subst hpj'
        have := old j x o q hj hx hkj hs hb hpj
        omega
      · rw [upd_ne S q1] at hs
        rw [upd_ne S q2] at hs'
        rw [hadd j q1] at hpj
        rw [hadd j' q2] at hpj'
        exact hinv.dist j j' x x' o o' q q' hx hx' hkj hkj' hs hs' hb hb' hj hpj hpj'

/-- The blocks of new objects that a change sees from now on. -/
def shown (base : Nat) (R : Ren) (fl : List (Nat × LObj)) (b : Nat) : Prop := ∃ x ∈ fl, ∃ p, R (base + x.1) = some p ∧ p.block = b

 include hp hok hn hinv h hi hpre in
/-- A change. -/
theorem dinv_change {q last : Nat} {fl : List (Nat × LObj)} {D : List Deferred} {H : LH} (hk : e.kind = .change q last fl D H) (hsm : (0 : Nat) < 1) :
    ∃ g, (gsOf g0 es)[k]? = some g ∧ DRels R g.1 a.defers ∧ HRel R (F.drop (shown base R fl)) (lputs base fl g.2) w ∧ lop1 C call round m e.o ⟨e.tmps, g.1, lputs base fl g.2⟩ = some (e.val, D, H) ∧
      ∀ R' d' w' v', R.le R' → HRel R' (F.drop (shown base R fl)) H w' → VRel R' e.val v' → DRels R' D d' →
        DInv base n T0 g0 es w0 (upd S i) (k + 1) e.mask R' (F.drop (shown base R fl)) (({ a with defers := d' } : Act).put e.o.dst v') w' := by
  obtain ⟨g, hg, hr, hd⟩ := hinv.rel
  obtain ⟨c1, c2, c3, c4⟩ := (hp.ent i e h).change q last fl D H hk
  have hch : chOf e = some (D, H) := by unfold chOf; rw [hk]
  have hqk : nch (es.take i) = k := by
    have hge : ¬ nch (es.take i) < k := fun q1 => by rw [(hinv.count i e h (by rw [hch]; rfl)).2 q1] at hi; cases hi
    rcases Nat.lt_trichotomy k (nch (es.take i)) with q1 | q1 | q1
    · obtain ⟨j, x, g1, g2, g3, g4⟩ := nch_find i k q1
      have := hp.total g2 h g1 g3 (by rw [hch]; rfl)
      have := (hinv.count j x g2 g3).1 (hpre j this)
      omega
    · exact q1.symm
    · exact absurd q1 hge
  have hgc := gs_at (es := es) (g0 := g0) i
  rw [hqk, hg] at hgc
  injection hgc with hgc
  have hlast : last = mk := by
    refine last_uniq (es := es) (k := k) ?_ hinv.last
    rw [c2]
    rcases last_is (es := es) i with ⟨l1, l2⟩ | ⟨j, x, l1, l2, l3, l4, l5⟩
    · exact .inl ⟨by omega, l2⟩
    · exact .inr ⟨j, x, l2, l3, by omega, l5⟩
  have hmem : ∀ x ∈ fl, ∃ y, es[x.1]? = some y ∧ y.kind = .float x.2 ∧ S x.1 = true ∧ lbit mk x.1 = false ∧ lbit e.mask x.1 = true ∧ x.1 < ops.size := fun x hx => by
    rw [c3] at hx
    obtain ⟨i', y, l1, l2, l3, l4, l5⟩ := (lfls_mem _ _ _ _ _).1 hx
    rw [Nat.zero_add] at l2
    rw [← l2] at l1
    obtain ⟨l6, l7⟩ := get_take l1
    have hlt := (List.getElem?_eq_some_iff.1 h).1
    rw [hp.size] at hlt
    exact ⟨y, l7, l3, hpre _ l4, hlast ▸ l5, l4, by omega⟩
  have hput := HRel.put_all (base := base) fl F g.2 (by rw [c3]; exact lfls_inc _ _ _ _) hr (fun x hx => by
    obtain ⟨y, l1, l2, l3, l4, l5, l6⟩ := hmem x hx
    obtain ⟨p, p1, p2, p3, p4⟩ := hinv.pend x.1 y x.2 l1 l2 l3 l4
    exact ⟨by omega, p, p1, p2, p4⟩) (fun x hx y hy p q' hxy hpx hqy => by
    obtain ⟨x1, l1, l2, l3, l4, _⟩ := hmem x hx
    obtain ⟨y1, m1, m2, m3, m4, _⟩ := hmem y hy
    exact hinv.dist x.1 y.1 x1 y1 x.2 y.2 p q' l1 m1 l2 m2 l3 m3 l4 m4 hxy hpx hqy)
  refine ⟨g, hg, hd, hput, by rw [hgc]; exact c4, fun R' d' w' v' hR hr' hv hd' => ?_⟩
  obtain ⟨t1, t2⟩ := tmps_upd hp hok hn hinv h hi hR hv d'
  have hnf : ∀ j x o, es[j]? = some x → x.kind = .float o → j ≠ i := fun j x o hx hc q => by
    subst q; rw [h] at hx; injection hx with hx; subst hx; rw [hk] at hc; cases hc
  have hgn := gs_next (g0 := g0) h hch
  rw [hqk] at hgn
  have hblock : ∀ b, F.keep b → ¬ shown base R fl b → w'.heap[b]? = w.heap[b]? := fun b hb hs => (hr'.below.block b ⟨hb, hs⟩).trans (hr.below.block b hb).symm
  have hold : ∀ j x o, es[j]? = some x → x.kind = .float o → upd S i j = true → lbit e.mask j = false → S j = true ∧ lbit mk j = false := fun j x o hx hkj hs hb => by
    rw [upd_ne S (hnf j x o hx hkj)] at hs
    refine ⟨hs, ?_⟩
    cases hb' : lbit mk j with
    | false => rfl
    | true =>
      exfalso
      rcases hinv.last with ⟨l1, l2⟩ | ⟨j0, x0, l1, l2, l3, l4⟩
      · rw [l2, lbit_zero] at hb'; cases hb'
      · have hj0 : j0 < i := by
          rcases Nat.lt_trichotomy j0 i with q1 | q1 | q1
          · exact q1
          · subst q1; omega
          · have := nch_mono (es := es) (show i ≤ j0 by omega); omega
        have ht := hp.total l1 h hj0 l2 (by rw [hch]; rfl)
        rw [← l4] at hb'
        rw [hp.trans h ht l1 hb'] at hb
        cases hb
  have hnot : ∀ j x o p, es[j]? = some x → x.kind = .float o → S j = true → lbit mk j = false → lbit e.mask j = false → R (base + j) = some p → ¬ shown base R fl p.block := fun j x o p hx hkj hs hb hbe hpj ⟨y, hy, p', hpy, hbl⟩ => by
    obtain ⟨y1, m1, m2, m3, m4, m5, _⟩ := hmem y hy
    have hne : y.1 ≠ j := fun q1 => by rw [q1, hbe] at m5; cases m5
    exact hinv.dist y.1 j y1 x y.2 o p' p m1 hx m2 hkj m3 hs m4 hb hne hpy hpj hbl
  refine ⟨closed_upd h hpre hinv, fun j x hx hc => ?_, ?_, .inr ⟨i, e, h, by rw [hch]; rfl, by omega, rfl⟩, ⟨(D, H), hgn, hr', ?_⟩, t1, t2, fun b hb => ⟨hinv.keep b hb, fun ⟨y, hy, p', hpy, hbl⟩ => ?_⟩, hinv.kept, fun id hid => hinv.hole0 id hid, fun j x o hx hkj hs => ?_, fun j x o hx hkj hs hb => ?_, fun j j' x x' o o' p p' hx hx' hkj hkj' hs hs' hb hb' hj hpj hpj' => ?_⟩
  · by_cases q1 : j = i
    · subst q1
      rw [upd_self]
      exact ⟨fun _ => by omega, fun _ => rfl⟩
    · rw [upd_ne S q1, hinv.count j x hx hc]
      refine ⟨fun q2 => by omega, fun q2 => ?_⟩
      rcases Nat.lt_or_ge (nch (es.take j)) k with q3 | q3
      · exact q3
      · exact absurd (nch_inj hx hc h (by rw [hch]; rfl) (by omega)) q1
  · have h1 := (gsOf_length g0 es)
    have h2 := (List.getElem?_eq_some_iff.1 hgn).1
    omega
  · cases hdst : e.o.dst <;> exact hd'
  · obtain ⟨y1, m1, m2, m3, m4, m5, _⟩ := hmem y hy
    obtain ⟨p1, n1, n2, n3, n4⟩ := hinv.pend y.1 y1 y.2 m1 m2 m3 m4
    rw [n1] at hpy; injection hpy with hpy; subst hpy
    exact n3 (hbl ▸ hb)
  · rw [upd_ne S (hnf j x o hx hkj)] at hs; exact hinv.holes j x o hx hkj hs
  · obtain ⟨s1, s2⟩ := hold j x o hx hkj hs hb
    obtain ⟨p, n1, n2, n3, n4⟩ := hinv.pend j x o hx hkj s1 s2
    have hns := hnot j x o p hx hkj s1 s2 hb n1
    exact ⟨p, hR _ _ n1, ⟨n2, hns⟩, n3, n4.keep hR (hblock _ n2 hns)⟩
  · obtain ⟨s1, s2⟩ := hold j x o hx hkj hs hb
    obtain ⟨s1', s2'⟩ := hold j' x' o' hx' hkj' hs' hb'
    obtain ⟨p1, n1, _⟩ := hinv.pend j x o hx hkj s1 s2
    obtain ⟨p2, n2, _⟩ := hinv.pend j' x' o' hx' hkj' s1' s2'
    rw [hR _ _ n1] at hpj; injection hpj with hpj; subst hpj
    rw [hR _ _ n2] at hpj'; injection hpj' with hpj'; subst hpj'
    exact hinv.dist j j' x x' o o' p1 p2 hx hx' hkj hkj' s1 s1' s2 s2' hj n1 n2
end
end Go.Proofs.YtiedaccgagnofaaGreat
