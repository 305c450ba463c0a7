/- Regions that draw their order, whole. -/
import Derived.Test.YtiedaccgagnofaaGreatRg
namespace Go.Proofs.YtiedaccgagnofaaGreat
open Go.RowKit

section
variable {C : Ctx} (hC : C.Sound) {call : LCall} {round : LRound} (hcall : CallOk C call) (hround : RoundOk C round) {m : LMode} {ops : Array Oper} {base n : Nat} {T0 : PT Value} {g0 : List Deferred × LH} {es : List Ent} (hp : Plan C call round m ops base T0 g0 es)
  (hok : ∀ o ∈ ops, operOk n o = true) (hn : n ≤ lmax) {w0 : Fr} (hsm : (0 : Nat) < 1)
 include hC hcall hround hp hok hn hsm

/-- The steps of one operation that may come up. -/
theorem dstep {S : Nat → Bool} {k mk : Nat} {R : Ren} {F : Fr} {a : Act} {w : World} {i : Nat} {e : Ent} (hinv : DInv base n T0 g0 es w0 S k mk R F a w) (h : es[i]? = some e) (hi : S i = false) (hpre : ∀ l, lbit e.mask l = true → S l = true)
    {b : Frame} {cs : List Frame} {kk : List Item} {rest : List Nat} (hg : Good R m b cs) :
    ∃ a' w' R' F' k' mk', R.le R' ∧ DInv base n T0 g0 es w0 (upd S i) k' mk' R' F' a' w' ∧ Steps C.P (lone (b.atR a (.inRegion ops (i :: rest) :: kk)) cs w) (lone (b.atR a' (.inRegion ops rest :: kk)) cs w') := by
  have ho := hp.op h
  have hw := wanted_same hp hok hn hinv h hi hpre
  have fin : ∀ (K : Act → World → Prop), (∀ a' w', K a' w' → ∃ R' F' k' mk', R.le R' ∧ DInv base n T0 g0 es w0 (upd S i) k' mk' R' F' a' w') → Region.wanted e.o (yielded ops a.tmps) = true → UponW C.P m e.o a K ((execOp a.eval e.o).run C.P w) →
      ∃ a' w' R' F' k' mk', R.le R' ∧ DInv base n T0 g0 es w0 (upd S i) k' mk' R' F' a' w' ∧ Steps C.P (lone (b.atR a (.inRegion ops (i :: rest) :: kk)) cs w) (lone (b.atR a' (.inRegion ops rest :: kk)) cs w') := fun K hK hw' hu => by
    obtain ⟨a', w', h1, h2⟩ := op_steps (rest := rest) (k := kk) hg ho hw' hu
    obtain ⟨R', F', k', mk', h3, h4⟩ := hK a' w' h1
    exact ⟨a', w', R', F', k', mk', h3, h4, h2⟩
  cases hk : e.kind with
  | skip =>
    rw [hk] at hw
    have hs := stepR_op_skip (P := C.P) (b := b) (a := a) (k := kk) (cs := cs) (w := w) (ops := ops) (i := i) (rest := rest) (by simp [ho, hw, EKind.runs])
    simp only [ho, Option.bind_some] at hs
    have hv := (hp.ent i e h).skip hk
    refine ⟨_, w, R, F, k, mk, Ren.le_refl R, dinv_quiet hp hok hn hinv h hi hpre (by unfold chOf; rw [hk]) (fun o q => by rw [hk] at q; cases q) (Ren.le_refl R) (by rw [hv]; exact undef_rel R) (fun g _ hr => hr), .one hs⟩
  | read =>
    rw [hk] at hw
    obtain ⟨g, hgk, hr, hd⟩ := hinv.rel
    obtain ⟨H', hl⟩ := hp.read h hk hgk hinv.le fun j x hx hc => ⟨fun hb => (hinv.count j x hx hc).1 (hpre j hb), fun hb => by
      rcases Nat.lt_or_ge (nch (es.take j)) k with q | q
      · have := hinv.closed j x hx ((hinv.count j x hx hc).2 q) i hb
        rw [hi] at this; cases this
      · exact q⟩
    have hsame := lop_same ((hp.ent i e h).read hk).1 hl
    subst hsame
    obtain ⟨R', w', y, r1, r2, r3, r4⟩ := lop_ok hC hr (eval_same hp hok hn hinv h hi hpre [] g.2) hl
    refine fin (fun a' w' => ∃ R' F' k' mk', R.le R' ∧ DInv base n T0 g0 es w0 (upd S i) k' mk' R' F' a' w') (fun _ _ q => q) hw ?_
    rw [r1]
    cases r4 with
    | value hv =>
      exact ⟨R', F, k, mk, r2, dinv_quiet hp hok hn hinv h hi hpre (by unfold chOf; rw [hk]) (fun o q => by rw [hk] at q; cases q) r2 hv (fun g' hg' _ => by rw [hgk] at hg'; injection hg' with hg'; subst hg'; exact r3)⟩
  | float obj =>
    rw [hk] at hw
    obtain ⟨g, hgk, hr, hd⟩ := hinv.rel
    obtain ⟨mkv, hl, hval⟩ := (hp.ent i e h).float obj hk
    rw [take_len h] at hval
    obtain ⟨p, x, v', r1, r2, r3, r4, r5⟩ := lfloat_ok hC hr (hinv.holes i e obj h hk hi) (eval_same hp hok hn hinv h hi hpre [] g0.2) hl
    refine fin (fun a' w' => ∃ R' F' k' mk', R.le R' ∧ DInv base n T0 g0 es w0 (upd S i) k' mk' R' F' a' w') (fun _ _ q => q) hw ?_
    rw [r1]
    exact ⟨_, _, k, mk, Ren.le_add p (hr.holes _ (hinv.holes i e obj h hk hi)).2, dinv_float hp hok hn hinv h hi hpre hk r2 (by rw [hval]; exact r3) r4⟩
  | change q last fl D H =>
    rw [hk] at hw
    obtain ⟨g, hgk, hd, hr, hl, hnext⟩ := dinv_change hp hok hn hinv h hi hpre hk hsm
    refine fin (fun a' w' => ∃ R' F' k' mk', R.le R' ∧ DInv base n T0 g0 es w0 (upd S i) k' mk' R' F' a' w') (fun _ _ q => q) hw ?_
    exact lop1_ok hC hcall hround (s := ⟨e.tmps, g.1, lputs base fl g.2⟩) hr (eval_same hp hok hn hinv h hi hpre _ _) hd hl _ fun R' d' w' v' k1 k2 k3 k4 => ⟨R', _, _, _, k1, hnext R' d' w' v' k1 k2 k3 k4⟩

/-- How many are still to come. -/
def todo (S : Nat → Bool) : Nat → Nat
  | 0 => 0
  | j + 1 => todo S j + (if S j = true then 0 else 1)
 omit hC hcall hround hp hok hn hsm in
theorem todo_zero {S : Nat → Bool} : ∀ {n : Nat}, todo S n = 0 → ∀ j, j < n → S j = true := by
  intro n
  induction n with
  | zero => intro _ j hj; omega
  | succ n ih =>
    intro h j hj
    simp only [todo] at h
    by_cases hs : S n = true
    · rcases Nat.lt_or_ge j n with q | q
      · exact ih (by omega) j q
      · have : j = n := by omega
        subst this; exact hs
    · rw [if_neg hs] at h; omega
 omit hC hcall hround hp hok hn hsm in
theorem todo_upd {S : Nat → Bool} {i : Nat} (hi : S i = false) : ∀ {n : Nat}, (n ≤ i → todo (upd S i) n = todo S n) ∧ (i < n → todo (upd S i) n + 1 = todo S n) := by
  intro n
  induction n with
  | zero => exact ⟨fun _ => rfl, fun h => by omega⟩
  | succ n ih =>
    refine ⟨fun h => ?_, fun h => ?_⟩
    · simp only [todo]
      rw [ih.1 (by omega), upd_ne S (show n ≠ i by omega)]
    · simp only [todo]
      by_cases q : n = i
      · subst q
        rw [ih.1 (Nat.le_refl _), upd_self, hi]
        simp
      · rw [upd_ne S q]
        have := ih.2 (by omega)
        omega

/-- All the orders that may be drawn. -/
theorem draw_steps {b : Frame} {cs : List Frame} {kk : List Item} : ∀ (fuel t : Nat) (listed : Array Bool) (S : Nat → Bool) (k mk : Nat) (R : Ren) (F : Fr) (a : Act) (w : World), listed.size = ops.size → (∀ j, S j = listed.getD j false) → todo S ops.size ≤ fuel →
    Good R m b cs → DInv base n T0 g0 es w0 S k mk R F a w →
    ∃ S' a' w' R' F' k' mk', (∀ j, j < ops.size → S' j = true) ∧ R.le R' ∧ DInv base n T0 g0 es w0 S' k' mk' R' F' a' w' ∧
      Steps C.P (lone (b.atR a (.inRegion ops (Region.linearise.go .any ops fuel t listed []) :: kk)) cs w) (lone (b.atR a' kk) cs w') := by
  intro fuel
  induction fuel with
  | zero =>
    intro t listed S k mk R F a w hsz hS htodo hg hinv
    refine ⟨S, a, w, R, F, k, mk, todo_zero (by omega), Ren.le_refl R, hinv, ?_⟩
    simp only [Region.linearise.go]
    exact .one stepR_region_end
  | succ fuel ih =>
    intro t listed S k mk R F a w hsz hS htodo hg hinv
    simp only [Region.linearise.go]
    change ∃ S' a' w' R' F' k' mk', (∀ j, j < ops.size → S' j = true) ∧ R.le R' ∧ DInv base n T0 g0 es w0 S' k' mk' R' F' a' w' ∧
      Steps C.P (lone (b.atR a (.inRegion ops (match (Region.ready .any ops listed)[t % (Region.ready .any ops listed).length]? with
      | some i => Region.linearise.go .any ops fuel (t / (Region.ready .any ops listed).length) (listed.setIfInBounds i true) [i]
      | none => [].reverse) :: kk)) cs w) (lone (b.atR a' kk) cs w')
    have hgetD : ∀ j, j < ops.size → listed.getD j true = listed.getD j false := fun j hj => by
      simp [Array.getD_eq_getD_getElem?, show j < listed.size by omega]
    cases hi : (Region.ready .any ops listed)[t % (Region.ready .any ops listed).length]? with
    | none =>
      have hnil : Region.ready .any ops listed = [] := by
        cases hr : Region.ready .any ops listed with
        | nil => rfl
        | cons x xs =>
          rw [hr] at hi
          have hlt : t % (x :: xs).length < (x :: xs).length := Nat.mod_lt _ (by simp)
          rw [List.getElem?_eq_none_iff] at hi
          omega
      have hall : ∀ j, j < ops.size → S j = true := by
        intro j
        induction j using Nat.strongRecOn with
        | ind j ihj =>
          intro hj
          cases hs : S j with
          | true => rfl
          | false =>
            exfalso
            have hje : j < es.length := by rw [hp.size]; exact hj
            have he : es[j]? = some es[j] := List.getElem?_eq_getElem hje
            have : j ∈ Region.ready .any ops listed := mem_ready.2 ⟨by rw [hgetD j hj, ← hS j]; exact hs, _, hp.op he, fun ed hed hb => by
              obtain ⟨x, e1, e2, _⟩ := hp.edge he (ed := ed) (by simpa using hed) hb
              rw [← hS]
              exact ihj _ e1 (by omega)⟩
            rw [hnil] at this
            cases this
      exact ⟨S, a, w, R, F, k, mk, hall, Ren.le_refl R, hinv, .one stepR_region_end⟩
    | some i =>
      simp only []
      rw [linearise_go_acc, List.reverse_singleton, List.singleton_append]
      obtain ⟨h1, o, h2, h3⟩ := mem_ready.1 (List.mem_of_getElem? hi)
      have hlt : i < ops.size := (Array.getElem?_eq_some_iff.1 h2).1
      have hie : i < es.length := by rw [hp.size]; exact hlt
      have he : es[i]? = some es[i] := List.getElem?_eq_getElem hie
      have heo := hp.op he
      rw [h2] at heo; injection heo with heo
      have hSi : S i = false := by rw [hS i, ← hgetD i hlt]; exact h1
      have hpre : ∀ l, lbit es[i].mask l = true → S l = true := fun l hl => by
        obtain ⟨ed, e1, e2, x, e3, e4, e5⟩ := hp.chain he hl
        have hsed : S ed.on = true := by rw [hS]; exact h3 ed (by rw [heo]; simpa using e1) e2
        rcases e5 with rfl | e5
        · exact hsed
        · exact hinv.closed _ x e4 hsed l e5
      obtain ⟨a1, w1, R1, F1, k1, mk1, r1, r2, r3⟩ := dstep hC hcall hround hp hok hn hsm hinv he hSi hpre (kk := kk) (rest := Region.linearise.go .any ops fuel (t / (Region.ready .any ops listed).length) (listed.setIfInBounds i true) []) hg
      obtain ⟨S', a', w', R', F', k', mk', q1, q2, q3, q4⟩ := ih (t / (Region.ready .any ops listed).length) (listed.setIfInBounds i true) (upd S i) k1 mk1 R1 F1 a1 w1 (by simp [hsz]) (fun j => by
        by_cases q : j = i
        · subst q
          rw [upd_self]
          simp [Array.getD_eq_getD_getElem?, show j < listed.size by omega]
        · rw [upd_ne S q, hS j, getD_set_ne false (Ne.symm q)]) (by have := (todo_upd hSi (n := ops.size)).2 hlt; omega) (hg.mono r1) r2
      exact ⟨S', a', w', R', F', k', mk', q1, Ren.le_trans r1 q2, q3, Steps.trans r3 q4⟩
end

section
variable {C : Ctx} (hC : C.Sound) {call : LCall} {round : LRound} (hcall : CallOk C call) (hround : RoundOk C round)
 include hC hcall hround

/-- Free numbers are set by. -/
def Fr.holes (w0 : Fr) (lo hi : Nat) : Fr := ⟨w0.w, w0.keep, w0.lt, fun id => w0.hole id ∨ (lo ≤ id ∧ id < hi)⟩

/-- A region that draws its order: its steps. -/
theorem ldraw_ok {n : Nat} {m : LMode} {ops : Array Oper} {b : Frame} {kk : List Item} {cs : List Frame} {w0 : Fr} {s s' : LS} {R : Ren} {a : Act} {w : World} (t : Nat) (hok : ops.toList.all (operOk n) = true) (hg : Good R m b cs) (h : HRel R w0 s.heap w) (ha : ARel R n s a)
    (hl : ldraw C call round m ops s = some s') :
    ∃ R' a' w', R.le R' ∧ HRel R' w0 s'.heap w' ∧ ARel R' n s' a' ∧ Steps C.P (lone (b.atR a (.inRegion ops (Region.linearise .any ops t) :: kk)) cs w) (lone (b.atR a' kk) cs w') := by
  unfold ldraw at hl
  split at hl
  · cases hl
  · rename_i hsm
    have hsm : (0 : Nat) < 1 := Nat.le_of_ble_eq_true hsm
    split at hl
    · rename_i st hpl
      injection hl with hl; subst hl
      have hps0 : PSOk C call round m ops s.heap.next s.tmps (s.defers, ⟨s.heap.objs, s.heap.next + ops.size⟩) ⟨[], [(s.defers, ⟨s.heap.objs, s.heap.next + ops.size⟩)], s.tmps, s.defers, ⟨s.heap.objs, s.heap.next + ops.size⟩, 0⟩ :=
        ⟨rfl, rfl, rfl, rfl, fun pre e post hx => by cases pre <;> simp at hx⟩
      obtain ⟨hps, hlen⟩ := lplan_ok ops.toList _ st hps0 (fun i o hi => by simpa using hi) hpl
      have hp : Plan C call round m ops s.heap.next s.tmps (s.defers, ⟨s.heap.objs, s.heap.next + ops.size⟩) st.es :=
        ⟨by simpa using hlen, fun j e hj => hps.ent _ e _ (split_at hj)⟩
      have hok' : ∀ o ∈ ops, operOk n o = true := all_mem hok
      have hrel0 : HRel R (w0.holes s.heap.next (s.heap.next + ops.size)) ⟨s.heap.objs, s.heap.next + ops.size⟩ w :=
        ⟨h.live, h.one, fun id hid => h.fresh id (by simp at hid; omega), ⟨h.below.os, h.below.tape, h.below.output, h.below.size, h.below.block⟩, fun id hid => by
          rcases hid with hid | hid
          · have := h.holes id hid
            exact ⟨by simp; omega, this.2⟩
          · exact ⟨by simp; omega, h.fresh id hid.1⟩⟩
      have hinv : DInv s.heap.next n s.tmps (s.defers, ⟨s.heap.objs, s.heap.next + ops.size⟩) st.es w0 (fun _ => false) 0 0 R (w0.holes s.heap.next (s.heap.next + ops.size)) a w := by
        refine ⟨fun j e _ hs => (by cases hs), fun j e _ _ => ⟨fun q => (by cases q), fun q => (by omega)⟩, Nat.zero_le _, .inl ⟨rfl, rfl⟩, ⟨_, rfl, hrel0, ha.defers⟩, fun t => ?_, ha.size, fun b hb => hb, ⟨rfl, rfl, rfl, Nat.le_refl _, fun _ _ => rfl⟩, fun id hid => ⟨.inl hid, (h.holes id hid).1⟩, fun j e o hj _ _ => .inr ?_, fun j e o _ _ hs => (by cases hs), fun i j x e o o' p q _ _ _ _ hs => (by cases hs)⟩
        · rw [look_cut 0 _ (Nat.zero_le _) fun j e _ _ _ hs => by cases hs]
          exact ha.tmps t
        · have := (List.getElem?_eq_some_iff.1 hj).1
          rw [hp.size] at this
          omega
      have htodo : ∀ k, todo (fun _ => false) k ≤ k := by
        intro k
        induction k with
        | zero => exact Nat.le_refl _
        | succ k ih => simp only [todo]; simp; omega
      obtain ⟨S', a', w', R', F', k', mk', q1, q2, q3, q4⟩ := draw_steps hC hcall hround hp hok' ha.few hsm (b := b) (cs := cs) (kk := kk) ops.size t (Array.replicate ops.size false) (fun _ => false) 0 0 R _ a w (by simp) (fun j => by
        simp only [Array.getD_eq_getD_getElem?, Array.getElem?_replicate]
        split <;> rfl) (htodo _) hg hinv
      obtain ⟨g, hgk, hr, hd⟩ := q3.rel
      have hk' : k' = nch st.es := by
        rcases Nat.lt_or_ge k' (nch st.es) with q | q
        · obtain ⟨j, x, x1, x2, x3, x4⟩ := nch_find (es := st.es) st.es.length k' (by rw [List.take_length]; exact q)
          have := (q3.count j x x2 x3).1 (q1 j (by rw [← hp.size]; exact x1))
          omega
        · have := q3.le; omega
      have hcur : g = (st.defers, st.heap) := by
        have := gs_at (es := st.es) (g0 := (s.defers, (⟨s.heap.objs, s.heap.next + ops.size⟩ : LH))) st.es.length
        rw [List.take_length, ← hk', hgk] at this
        injection this with this
        rw [this, hps.cur]
      subst hcur
      have hlast : st.last = mk' := by
        refine last_uniq (es := st.es) (k := k') ?_ q3.last
        rw [hps.last]
        have := last_is (es := st.es) st.es.length
        rw [List.take_length, ← hk'] at this
        rcases this with ⟨l1, l2⟩ | ⟨j, x, l1, l2, l3, l4, l5⟩
        · exact .inl ⟨l1, l2⟩
        · exact .inr ⟨j, x, l2, l3, l4, l5⟩
      have hmem : ∀ x ∈ lfls none st.last 0 st.es, ∃ y, st.es[x.1]? = some y ∧ y.kind = .float x.2 ∧ S' x.1 = true ∧ lbit mk' x.1 = false ∧ x.1 < ops.size := fun x hx => by
        obtain ⟨i', y, l1, l2, l3, _, l5⟩ := (lfls_mem _ _ _ _ _).1 hx
        rw [Nat.zero_add] at l2
        rw [← l2] at l1
        have hlt := (List.getElem?_eq_some_iff.1 l1).1
        rw [hp.size] at hlt
        exact ⟨y, l1, l3, q1 _ hlt, hlast ▸ l5, hlt⟩
      have hput := HRel.put_all (base := s.heap.next) (lfls none st.last 0 st.es) F' st.heap (lfls_inc _ _ _ _) hr (fun x hx => by
        obtain ⟨y, l1, l2, l3, l4, l5⟩ := hmem x hx
        obtain ⟨p, p1, p2, p3, p4⟩ := q3.pend x.1 y x.2 l1 l2 l3 l4
        exact ⟨by omega, p, p1, p2, p4⟩) (fun x hx y hy p q' hxy hpx hqy => by
        obtain ⟨x1, l1, l2, l3, l4, _⟩ := hmem x hx
        obtain ⟨y1, m1, m2, m3, m4, _⟩ := hmem y hy
        exact q3.dist x.1 y.1 x1 y1 x.2 y.2 p q' l1 m1 l2 m2 l3 m3 l4 m4 hxy hpx hqy)
      refine ⟨R', a', w', q2, hput.weaken (fun b hb => ⟨q3.keep b hb, fun ⟨y, hy, p', hpy, hbl⟩ => ?_⟩) (q3.kept.trans q3.keep hr.below) (fun id hid => (q3.hole0 id hid).1), ⟨fun t => ?_, q3.size, hd, ha.few⟩, q4⟩
      · obtain ⟨y1, m1, m2, m3, m4, _⟩ := hmem y hy
        obtain ⟨p1, n1, n2, n3, n4⟩ := q3.pend y.1 y1 y.2 m1 m2 m3 m4
        rw [n1] at hpy; injection hpy with hpy; subst hpy
        exact n3 (hbl ▸ hb)
      · have h1 := look_tmps (es := st.es) (T0 := s.tmps) (t := t) (fun j e d e1 e2 => (dst_small hp hok' ha.few e1 e2).2) st.es.length
        rw [List.take_length] at h1
        have h2 : look st.es s.tmps S' t st.es.length = look st.es s.tmps (fun _ => true) t st.es.length := look_congr _ fun j e hj _ _ => q1 j (by rw [← hp.size]; exact hj)
        have h3 := q3.tmps t
        rw [h2, ← h1, ← hps.tmps] at h3
        exact h3
    · cases hl
end
end Go.Proofs.YtiedaccgagnofaaGreat
