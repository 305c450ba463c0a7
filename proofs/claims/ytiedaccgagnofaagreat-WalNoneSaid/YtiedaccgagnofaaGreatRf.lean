/- Regions that draw their order: temporaries; what is so while such a region runs. -/
import Derived.Test.YtiedaccgagnofaaGreatRe
namespace Go.Proofs.YtiedaccgagnofaaGreat
open Go.RowKit

noncomputable def lk (T : PT Value) (t : Tmp) : Value := match T.get t with | some v => v | none => undef
/-- A temporary's value, of the operations so far that have run. -/
noncomputable def look (es : List Ent) (T0 : PT Value) (S : Nat → Bool) (t : Tmp) : Nat → Value
  | 0 => lk T0 t
  | j + 1 => match es[j]? with
    | some e => if S j = true ∧ e.o.dst = some t then e.val else look es T0 S t j
    | none => look es T0 S t j
def upd (S : Nat → Bool) (i : Nat) : Nat → Bool := fun j => S j || j == i
theorem upd_self (S : Nat → Bool) (i : Nat) : upd S i i = true := by simp [upd]
theorem upd_ne (S : Nat → Bool) {i j : Nat} (h : j ≠ i) : upd S i j = S j := by simp [upd, h]
theorem upd_mono (S : Nat → Bool) (i : Nat) {j : Nat} (h : S j = true) : upd S i j = true := by simp [upd, h]

theorem look_congr {es : List Ent} {T0 : PT Value} {S S' : Nat → Bool} {t : Tmp} : ∀ (n : Nat), (∀ j e, j < n → es[j]? = some e → e.o.dst = some t → S j = S' j) → look es T0 S t n = look es T0 S' t n := by
  intro n
  induction n with
  | zero => intro _; rfl
  | succ n ih =>
    intro h
    have := ih fun j e hj => h j e (by omega)
    simp only [look]
    cases he : es[n]? with
    | none => exact this
    | some e =>
      simp only
      by_cases hd : e.o.dst = some t
      · rw [h n e (by omega) he hd, this]
      · simp only [hd, and_false, if_false]; exact this
theorem look_cut {es : List Ent} {T0 : PT Value} {S : Nat → Bool} {t : Tmp} (i : Nat) : ∀ (n : Nat), i ≤ n → (∀ j e, i ≤ j → j < n → es[j]? = some e → S j = true → e.o.dst ≠ some t) → look es T0 S t n = look es T0 S t i := by
  intro n
  induction n with
  | zero => intro h _; have : i = 0 := by omega
            subst this; rfl
  | succ n ih =>
    intro h hj
    rcases Nat.lt_or_ge i (n + 1) with h1 | h1
    · rw [← ih (by omega) fun j e h2 h3 => hj j e h2 (by omega)]
      simp only [look]
      cases he : es[n]? with
      | none => rfl
      | some e =>
        simp only
        rw [if_neg fun q => hj n e (by omega) (by omega) he q.1 q.2]
    · have : i = n + 1 := by omega
      subst this; rfl
theorem look_tmps {es : List Ent} {T0 : PT Value} {t : Tmp} (hd : ∀ (j : Nat) (e : Ent) (d : Tmp), es[j]? = some e → e.o.dst = some d → d < lmax) : ∀ (n : Nat), lk (tmpsOf T0 (es.take n)) t = look es T0 (fun _ => true) t n := by
  intro n
  induction n with
  | zero => rfl
  | succ n ih =>
    simp only [look]
    cases he : es[n]? with
    | none =>
      have := List.getElem?_eq_none_iff.1 he
      have hh : es.take (n + 1) = es.take n := by rw [List.take_of_length_le (show es.length ≤ n + 1 by omega), List.take_of_length_le (show es.length ≤ n by omega)]
      rw [hh]; exact ih
    | some e =>
      rw [take_snoc he, tmpsOf_snoc]
      simp only [true_and]
      cases hde : e.o.dst with
      | none => simp only [putT, LS.put]; rw [if_neg (by simp)]; exact ih
      | some d =>
        have hm := lmax_ok (hd n e d he hde)
        simp only [putT, LS.put, lk, Option.some.injEq]
        rw [PT.get_set _ _ _ _ _ (pow_ok d)]
        by_cases h1 : t = d
        · subst h1; simp
        · rw [if_neg h1, if_neg (Ne.symm h1)]; exact ih

theorem wanted_rel {R : Ren} {ops : Array Oper} {T : PT Value} {tmps : Array Value} {D : List Deferred} {H : LH} (o : Oper) (hh : ∀ j want t, o.guard = some (j, want) → (ops[j]?).bind (·.dst) = some t → VRel R (lk T t) (tmps.getD t undef)) :
    lwanted ops ⟨T, D, H⟩ o = Region.wanted o (yielded ops tmps) := by
  unfold lwanted Region.wanted
  cases hg : o.guard with
  | none => rfl
  | some g =>
    obtain ⟨j, want⟩ := g
    simp only [yielded]
    cases ht : (ops[j]?).bind (·.dst) with
    | none => cases want <;> rfl
    | some t =>
      simp only [Option.bind_some]
      have hr := hh j want t hg ht
      unfold lk at hr
      cases hs : T.get t with
      | some v =>
        simp only [hs] at hr
        rw [Array.getD_eq_getD_getElem?] at hr
        cases hx : tmps[t]? with
        | some v' =>
          simp only [hx, Option.getD_some] at hr
          cases hr with
          | bool b => cases b <;> cases want <;> rfl
          | _ => cases want <;> rfl
        | none =>
          simp only [hx, Option.getD_none] at hr
          cases v with
          | bool b => cases hr
          | _ => cases want <;> rfl
      | none =>
        simp only [hs] at hr
        rw [Array.getD_eq_getD_getElem?] at hr
        cases hx : tmps[t]? with
        | some v' =>
          simp only [hx, Option.getD_some] at hr
          cases v' with
          | bool b => cases hr
          | _ => cases want <;> rfl
        | none => cases want <;> rfl

/-- Which change was the last. -/
def LastIs (es : List Ent) (k mk : Nat) : Prop := (k = 0 ∧ mk = 0) ∨ ∃ j x, es[j]? = some x ∧ (chOf x).isSome = true ∧ nch (es.take j) + 1 = k ∧ x.mask = mk

/-- What is so while such a region runs, the operations of S having run. -/
structure DInv (base n : Nat) (T0 : PT Value) (g0 : List Deferred × LH) (es : List Ent) (w0 : Fr) (S : Nat → Bool) (k mk : Nat) (R : Ren) (F : Fr) (a : Act) (w : World) : Prop where
  closed : ∀ j e, es[j]? = some e → S j = true → ∀ l, lbit e.mask l = true → S l = true
  count : ∀ j e, es[j]? = some e → (chOf e).isSome = true → (S j = true ↔ nch (es.take j) < k)
  le : k ≤ nch es
  last : LastIs es k mk
  rel : ∃ g, (gsOf g0 es)[k]? = some g ∧ HRel R F g.2 w ∧ DRels R g.1 a.defers
  tmps : ∀ t, VRel R (look es T0 S t es.length) (a.tmps.getD t undef)
  size : a.tmps.size = n
  keep : ∀ b, w0.keep b → F.keep b
  kept : Kept w0 F.w
  hole0 : ∀ id, w0.hole id → F.hole id ∧ id < base
  holes : ∀ j e o, es[j]? = some e → e.kind = .float o → S j = false → F.hole (base + j)
  pend : ∀ j e o, es[j]? = some e → e.kind = .float o → S j = true → lbit mk j = false → ∃ p, R (base + j) = some p ∧ F.keep p.block ∧ ¬ w0.keep p.block ∧ Holds R w p o
  dist : ∀ i j x e o o' p q, es[i]? = some x → es[j]? = some e → x.kind = .float o → e.kind = .float o' → S i = true → S j = true → lbit mk i = false → lbit mk j = false → i ≠ j → R (base + i) = some p → R (base + j) = some q → p.block ≠ q.block

section
variable {C : Ctx} {call : LCall} {round : LRound} {m : LMode} {ops : Array Oper} {base n : Nat} {T0 : PT Value} {g0 : List Deferred × LH} {es : List Ent} (hp : Plan C call round m ops base T0 g0 es)
  (hok : ∀ o ∈ ops, operOk n o = true) (hn : n ≤ lmax) {w0 : Fr} {S : Nat → Bool} {k mk : Nat} {R : Ren} {F : Fr} {a : Act} {w : World}
 include hp hok hn

theorem dst_small {j : Nat} {e : Ent} {d : Tmp} (h : es[j]? = some e) (hd : e.o.dst = some d) : d < n ∧ d < lmax := by
  have h1 := hok e.o (Array.mem_of_getElem? (hp.op h))
  simp only [operOk, Bool.and_eq_true] at h1
  have h2 := h1.1
  rw [hd] at h2
  have : d < n := Nat.le_of_ble_eq_true h2
  exact ⟨this, Nat.lt_of_lt_of_le this hn⟩

/-- What an operation looks at is as the plan has it. -/
theorem look_same {i : Nat} {e : Ent} (hinv : DInv base n T0 g0 es w0 S k mk R F a w) (h : es[i]? = some e) (hi : S i = false) (hpre : ∀ l, lbit e.mask l = true → S l = true) {t : Tmp} (ht : t ∈ e.o.looksAt ops) :
    lk e.tmps t = look es T0 S t es.length := by
  have hlt := (List.getElem?_eq_some_iff.1 h).1
  rw [(hp.ent i e h).tmps, look_tmps (fun j e' d h1 h2 => (dst_small hp hok hn h1 h2).2)]
  rw [look_cut i es.length (by omega) fun j x hij _ hx hs hd => ?_]
  · refine look_congr i fun j x hj hx hd => ?_
    cases hs : S j with
    | true => rfl
    | false =>
      have hb : lbit e.mask j = false := by
        cases hb : lbit e.mask j with
        | false => rfl
        | true => rw [hpre j hb] at hs; cases hs
      exact absurd ht ((Oper.apart_spec (hp.apart hx h hj hb)).1 t hd)
  · rcases Nat.lt_or_ge i j with q | q
    · have hb : lbit x.mask i = false := by
        cases hb : lbit x.mask i with
        | false => rfl
        | true => rw [hinv.closed j x hx hs i hb] at hi; cases hi
      exact (Oper.apart_spec (hp.apart h hx q hb)).2.2 t hd ht
    · have : i = j := by omega
      subst this
      rw [hi] at hs; cases hs
 omit hok hn in
theorem look_upd {i : Nat} {e : Ent} (hinv : DInv base n T0 g0 es w0 S k mk R F a w) (h : es[i]? = some e) (hi : S i = false) (t : Tmp) :
    look es T0 (upd S i) t es.length = if e.o.dst = some t then e.val else look es T0 S t es.length := by
  have hlt := (List.getElem?_eq_some_iff.1 h).1
  by_cases hd : e.o.dst = some t
  · rw [if_pos hd, look_cut (i + 1) es.length (by omega) fun j x hij _ hx hs hdx => ?_]
    · simp only [look, h, upd_self, hd, and_self, if_true]
    · rw [upd_ne _ (show j ≠ i by omega)] at hs
      have hb : lbit x.mask i = false := by
        cases hb : lbit x.mask i with
        | false => rfl
        | true => rw [hinv.closed j x hx hs i hb] at hi; cases hi
      exact (Oper.apart_spec (hp.apart h hx (by omega) hb)).2.1 t hd hdx
  · rw [if_neg hd]
    refine look_congr _ fun j x _ hx hdx => ?_
    by_cases q : j = i
    · subst q; rw [h] at hx; injection hx with hx; subst hx; exact absurd hdx hd
    · exact upd_ne S q
theorem tmps_upd {i : Nat} {e : Ent} (hinv : DInv base n T0 g0 es w0 S k mk R F a w) (h : es[i]? = some e) (hi : S i = false) {R' : Ren} (hR : R.le R') {v' : Value} (hv : VRel R' e.val v') (d' : List Deferred) :
    (∀ t, VRel R' (look es T0 (upd S i) t es.length) ((({ a with defers := d' } : Act).put e.o.dst v').tmps.getD t undef)) ∧ (({ a with defers := d' } : Act).put e.o.dst v').tmps.size = n := by
  cases hd : e.o.dst with
  | none =>
    refine ⟨fun t => ?_, hinv.size⟩
    rw [look_upd hp hinv h hi, hd, if_neg (by simp)]
    exact (hinv.tmps t).mono hR
  | some d =>
    refine ⟨fun t => ?_, by simpa [Act.put] using hinv.size⟩
    rw [look_upd hp hinv h hi, hd]
    have hlt : d < a.tmps.size := by rw [hinv.size]; exact (dst_small hp hok hn h hd).1
    by_cases q : d = t
    · subst q
      rw [if_pos rfl]
      simp [Act.put, Array.getD_eq_getD_getElem?, hlt, hv]
    · rw [if_neg (by simp [q])]
      have := (hinv.tmps t).mono hR
      simpa [Act.put, Array.getD_eq_getD_getElem?, Array.getElem?_setIfInBounds_ne q] using this
theorem eval_same {i : Nat} {e : Ent} (hinv : DInv base n T0 g0 es w0 S k mk R F a w) (h : es[i]? = some e) (hi : S i = false) (hpre : ∀ l, lbit e.mask l = true → S l = true) (D : List Deferred) (H : LH) :
    ∀ x ∈ e.o.op.operands, VRel R (LS.eval ⟨e.tmps, D, H⟩ x) (a.eval x) := fun x hx => by
  have h1 := hok e.o (Array.mem_of_getElem? (hp.op h))
  simp only [operOk, Bool.and_eq_true] at h1
  have h2 := all_mem h1.2 x hx
  cases x with
  | tmp t =>
    have ht : t ∈ e.o.looksAt ops := List.mem_append_left _ (List.mem_filterMap.2 ⟨.tmp t, by simpa using hx, rfl⟩)
    show VRel R (lk e.tmps t) (a.tmps.getD t undef)
    rw [look_same hp hok hn hinv h hi hpre ht]
    exact hinv.tmps t
  | const v => exact VRel.of_flat1 R h2
  | global g => simp [operandOk] at h2
  | func f => exact .func _ rfl rfl rfl (fun i v v' p => by simp at p) (fun i v v' p => by simp at p)
theorem wanted_same {i : Nat} {e : Ent} (hinv : DInv base n T0 g0 es w0 S k mk R F a w) (h : es[i]? = some e) (hi : S i = false) (hpre : ∀ l, lbit e.mask l = true → S l = true) :
    Region.wanted e.o (yielded ops a.tmps) = e.kind.runs := by
  rw [← (hp.ent i e h).wanted]
  refine (wanted_rel (R := R) e.o fun j want t hg ht => ?_).symm
  have hl : t ∈ e.o.looksAt ops := List.mem_append_right _ (by simp [hg, ht])
  rw [look_same hp hok hn hinv h hi hpre hl]
  exact hinv.tmps t
end
end Go.Proofs.YtiedaccgagnofaaGreat
