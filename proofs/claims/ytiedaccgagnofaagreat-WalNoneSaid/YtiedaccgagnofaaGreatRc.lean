/- Regions that draw their order: the plan, entry by entry. -/
import Derived.Test.YtiedaccgagnofaaGreatRb
namespace Go.Proofs.YtiedaccgagnofaaGreat
open Go.RowKit

noncomputable def putT (T : PT Value) (dst : Option Tmp) (v : Value) : PT Value := (LS.put ⟨T, [], .empty⟩ dst v).tmps
theorem putT_eq (T : PT Value) (H : LH) (D : List Deferred) (dst : Option Tmp) (v : Value) : (LS.put ⟨T, D, H⟩ dst v).tmps = putT T dst v := by cases dst <;> rfl
noncomputable def tmpsOf (T0 : PT Value) (es : List Ent) : PT Value := es.foldl (fun T e => putT T e.o.dst e.val) T0
def chOf (e : Ent) : Option (List Deferred × LH) :=
  match e.kind with
  | .change _ _ _ D H => some (D, H)
  | _ => none
def gsOf (g0 : List Deferred × LH) (es : List Ent) : List (List Deferred × LH) := g0 :: es.filterMap chOf
def curOf (g0 : List Deferred × LH) (es : List Ent) : List Deferred × LH := es.foldl (fun g e => (chOf e).getD g) g0
def lastOf (es : List Ent) : Nat := es.foldl (fun l e => if (chOf e).isSome then e.mask else l) 0
def nch (es : List Ent) : Nat := (es.filterMap chOf).length

theorem tmpsOf_snoc (T0 : PT Value) (es : List Ent) (e : Ent) : tmpsOf T0 (es ++ [e]) = putT (tmpsOf T0 es) e.o.dst e.val := by simp [tmpsOf]
theorem gsOf_snoc (g0 : List Deferred × LH) (es : List Ent) (e : Ent) : gsOf g0 (es ++ [e]) = gsOf g0 es ++ (chOf e).toList := by
  cases h : chOf e <;> simp [gsOf, h]
theorem curOf_snoc (g0 : List Deferred × LH) (es : List Ent) (e : Ent) : curOf g0 (es ++ [e]) = (chOf e).getD (curOf g0 es) := by simp [curOf]
theorem lastOf_snoc (es : List Ent) (e : Ent) : lastOf (es ++ [e]) = if (chOf e).isSome then e.mask else lastOf es := by simp [lastOf]
theorem nch_snoc (es : List Ent) (e : Ent) : nch (es ++ [e]) = nch es + (chOf e).toList.length := by
  cases h : chOf e <;> simp [nch, h]
theorem gsOf_length (g0 : List Deferred × LH) (es : List Ent) : (gsOf g0 es).length = nch es + 1 := by simp [gsOf, nch]

def EKind.runs : EKind → Bool
  | .skip => false
  | _ => true

/-- What is so of an entry, by those ahead of it. -/
structure EntOk (C : Ctx) (call : LCall) (round : LRound) (m : LMode) (ops : Array Oper) (base : Nat) (T0 : PT Value) (g0 : List Deferred × LH) (pre : List Ent) (e : Ent) : Prop where
  op : ops[pre.length]? = some e.o
  mask : lbits pre e.o.after.toList = some e.mask
  tmps : e.tmps = tmpsOf T0 pre
  wanted : lwanted ops ⟨e.tmps, [], g0.2⟩ e.o = e.kind.runs
  skip : e.kind = .skip → e.val = undef
  read : e.kind = .read → lkind e.o.op = 0 ∧ ∃ H', lop C (LS.eval ⟨e.tmps, [], g0.2⟩) (curOf g0 pre).2 e.o = some (.value e.val, H')
  float : ∀ o, e.kind = .float o → ∃ mk, lfloat C (LS.eval ⟨e.tmps, [], g0.2⟩) e.o.op = some (mk, o) ∧ e.val = mk (base + pre.length)
  change : ∀ q last fl D H, e.kind = .change q last fl D H → q = nch pre ∧ last = lastOf pre ∧ fl = lfls (some e.mask) last 0 pre ∧ lop1 C call round m e.o ⟨e.tmps, (curOf g0 pre).1, lputs base fl (curOf g0 pre).2⟩ = some (e.val, D, H)
  pairs : lpairs C ops (gsOf g0 pre) ((chOf e).getD (curOf g0 pre)).2 e 0 pre = true

/-- What is so of the plan under way. -/
structure PSOk (C : Ctx) (call : LCall) (round : LRound) (m : LMode) (ops : Array Oper) (base : Nat) (T0 : PT Value) (g0 : List Deferred × LH) (st : PS) : Prop where
  gs : st.gs = gsOf g0 st.es
  tmps : st.tmps = tmpsOf T0 st.es
  cur : (st.defers, st.heap) = curOf g0 st.es
  last : st.last = lastOf st.es
  ent : ∀ pre e post, st.es = pre ++ e :: post → EntOk C call round m ops base T0 g0 pre e

theorem snoc_split {α : Type} {xs : List α} {x : α} {pre : List α} {e : α} {post : List α} (h : xs ++ [x] = pre ++ e :: post) : (pre = xs ∧ e = x ∧ post = []) ∨ ∃ post', post = post' ++ [x] ∧ xs = pre ++ e :: post' := by
  rcases List.eq_nil_or_concat post with rfl | ⟨post', y, rfl⟩
  · left
    have := List.append_inj' h rfl
    injection this.2 with h1
    exact ⟨this.1.symm, h1.symm, rfl⟩
  · right
    have h' : xs ++ [x] = (pre ++ e :: post') ++ [y] := by rw [h]; simp
    have := List.append_inj' h' rfl
    injection this.2 with h1
    exact ⟨post', by rw [h1]; simp, this.1⟩

section
variable {C : Ctx} {call : LCall} {round : LRound} {m : LMode} {ops : Array Oper} {base : Nat} {T0 : PT Value} {g0 : List Deferred × LH}

theorem PSOk.add {st : PS} (h : PSOk C call round m ops base T0 g0 st) {e : Ent} {st' : PS} (hc : chOf e = none) (hl : ladd C ops st e = some st')
    (he : lpairs C ops (gsOf g0 st.es) ((chOf e).getD (curOf g0 st.es)).2 e 0 st.es = true → EntOk C call round m ops base T0 g0 st.es e) :
    PSOk C call round m ops base T0 g0 st' ∧ st'.es = st.es ++ [e] := by
  unfold ladd at hl
  split at hl
  · rename_i hp
    injection hl with hl; subst hl
    have hcur : st.heap = (curOf g0 st.es).2 := by rw [← h.cur]
    refine ⟨⟨?_, ?_, ?_, ?_, ?_⟩, rfl⟩
    · simp [gsOf_snoc, hc, h.gs]
    · show (LS.put _ _ _).tmps = _
      rw [putT_eq, tmpsOf_snoc, h.tmps]
    · simp [curOf_snoc, hc, h.cur]
    · simp [lastOf_snoc, hc, h.last]
    · intro pre x post hx
      rcases snoc_split hx with ⟨rfl, rfl, _⟩ | ⟨post', _, hx'⟩
      · exact he (by rw [hc, Option.getD_none, ← hcur, ← h.gs]; exact hp)
      · exact h.ent pre x post' hx'
  · cases hl

theorem lwanted_tmps (T : PT Value) (D D' : List Deferred) (H H' : LH) (o : Oper) : lwanted ops ⟨T, D, H⟩ o = lwanted ops ⟨T, D', H'⟩ o := rfl
theorem eval_tmps (T : PT Value) (D D' : List Deferred) (H H' : LH) : LS.eval ⟨T, D, H⟩ = LS.eval ⟨T, D', H'⟩ := by
  funext x; cases x <;> rfl

theorem lstep_ok {st st' : PS} {o : Oper} (h : PSOk C call round m ops base T0 g0 st) (ho : ops[st.es.length]? = some o) (hl : lstep C call round m ops base o st = some st') :
    PSOk C call round m ops base T0 g0 st' ∧ st'.es.length = st.es.length + 1 := by
  unfold lstep at hl
  split at hl
  · cases hl
  · rename_i mask hm
    have hcur : st.heap = (curOf g0 st.es).2 := by rw [← h.cur]
    have hcur1 : st.defers = (curOf g0 st.es).1 := by rw [← h.cur]
    split at hl
    · rename_i hw
      obtain ⟨g1, g2⟩ := h.add rfl hl fun hp => ⟨ho, hm, h.tmps, hw, fun _ => rfl, fun e => (by cases e), fun o e => (by cases e), fun q l f D H e => (by cases e), hp⟩
      exact ⟨g1, by rw [g2]; simp⟩
    · rename_i hw
      split at hl
      · rename_i hk
        split at hl
        · rename_i v H' hv
          obtain ⟨g1, g2⟩ := h.add rfl hl fun hp => ⟨ho, hm, h.tmps, hw, fun e => (by cases e), fun _ => ⟨hk, H', by rw [← hcur]; exact hv⟩, fun o e => (by cases e), fun q l f D H e => (by cases e), hp⟩
          exact ⟨g1, by rw [g2]; simp⟩
        · cases hl
      · unfold lchange at hl
        split at hl
        · rename_i v D H hv
          unfold laddc at hl
          split at hl
          · rename_i hp
            injection hl with hl; subst hl
            have hq : st.gs.length - 1 = nch st.es := by rw [h.gs, gsOf_length]; omega
            refine ⟨⟨?_, ?_, ?_, ?_, ?_⟩, by simp⟩
            · simp [gsOf_snoc, chOf, h.gs]
            · show (LS.put _ _ _).tmps = _
              rw [putT_eq, tmpsOf_snoc, h.tmps]
            · simp [curOf_snoc, chOf]
            · simp [lastOf_snoc, chOf]
            · intro pre x post hx
              rcases snoc_split hx with ⟨rfl, rfl, _⟩ | ⟨post', _, hx'⟩
              · refine ⟨ho, hm, h.tmps, hw, fun e => (by cases e), fun e => (by cases e), fun o e => (by cases e), fun q l f D' H' e => ?_, ?_⟩
                · injection e with e1 e2 e3 e4 e5
                  subst e1; subst e2; subst e3; subst e4; subst e5
                  refine ⟨hq, h.last, rfl, ?_⟩
                  rw [← hcur, ← hcur1]; exact hv
                · simp only [chOf, Option.getD_some]
                  rw [← h.gs]; exact hp
              · exact h.ent pre x post' hx'
          · cases hl
        · cases hl
      · split at hl
        · rename_i mk obj hf
          obtain ⟨g1, g2⟩ := h.add rfl hl fun hp => ⟨ho, hm, h.tmps, hw, fun e => (by cases e), fun e => (by cases e), fun o e => (by injection e with e; subst e; exact ⟨mk, hf, rfl⟩), fun q l f D H e => (by cases e), hp⟩
          exact ⟨g1, by rw [g2]; simp⟩
        · cases hl

theorem lplan_ok : ∀ (l : List Oper) (st st' : PS), PSOk C call round m ops base T0 g0 st → (∀ i o, l[i]? = some o → ops[st.es.length + i]? = some o) → lplan C call round m ops base l st = some st' →
    PSOk C call round m ops base T0 g0 st' ∧ st'.es.length = st.es.length + l.length := by
  intro l
  induction l with
  | nil =>
    intro st st' h _ hl
    simp only [lplan] at hl
    injection hl with hl; subst hl
    exact ⟨h, by simp⟩
  | cons o l ih =>
    intro st st' h ho hl
    simp only [lplan] at hl
    split at hl
    · rename_i st1 hs
      obtain ⟨g1, g2⟩ := lstep_ok h (by simpa using ho 0 o rfl) hs
      obtain ⟨g3, g4⟩ := ih st1 st' g1 (fun i o' hi => by rw [g2]; have := ho (i + 1) o' (by simpa using hi); rw [← this]; congr 1; omega) hl
      exact ⟨g3, by rw [g4, g2]; simp; omega⟩
    · cases hl
end
end Go.Proofs.YtiedaccgagnofaaGreat
