/- flumelaw22.WalNone returns true for every input: a call of a log that is none, or a zero one, is answered as closed; so are its cursors; a cursor that is none says so. No condition: every call and every number. -/
import Derived.Test.YtiedaccgagnofaaGreatNe
import Derived.ChangeOld
import Derived.WideShapes
import Derived.Lib.SmallJoins
import Derived.Test.YtiedaccgagnofaaGreatRows
import Derived.Test.YtiedaccgagnofaaGreatNg
namespace Go.Proofs.YtiedaccgagnofaaGreat
open Go.ChangeShapes Go.WideShapes Go.ChangeAt Go.RowKit
set_option maxRecDepth 1000000

/-- A call by the second run, from a memory told in part. -/
theorem lg_call {n : Nat} {f : FuncId} {args : List Value} {H0 : LH} {Q : Value → LH → Prop} (h : Ev (lcall CT n f args H0) Q) {R : Ren} {w0 : Fr} {w : World} {args' : Array Value} (hr : HRel R w0 H0 w) (ha : VRels R args args'.toList) :
    Calls Tryz.prog f args' w fun e w' => ∃ v v' H', e = .returned v' ∧ Q v H' ∧ ∃ R', R.le R' ∧ VRel R' v v' ∧ HRel R' w0 H' w' := by
  obtain ⟨v, H', h, hq⟩ := h
  refine Calls.mono ((ldeep_ok CT_good n).1 f args H0 v H' h R w0 w args' hr ha) fun e w' he => ?_
  cases e with
  | returned v' => exact ⟨v, v', H', rfl, hq, he⟩
  | panicked c => exact he.elim
  | outgrown => exact he.elim
/-- Nothing is told of memory; numbers below 4 are set by. -/
theorem HRel.blank {R : Ren} (hR : ∀ id, 4 ≤ id → R id = none) (w : World) : HRel R (Fr.all w) ⟨.nil, 4⟩ w :=
  ⟨fun id o h => by simp [LH.at, PT.get_nil] at h, fun i j o o' p p' h => by simp [LH.at, PT.get_nil] at h, fun id h => hR id h, ⟨rfl, rfl, rfl, Nat.le_refl _, fun _ _ => rfl⟩, fun _ h => h.elim⟩

/-- A slice of the caller's, whose cells are not looked at. -/
inductive Sl : Value → Prop where
  | nil : Sl (.slice none 0 0)
  | «at» (b o n c : Nat) (h : n ≤ c) : Sl (.slice (some ⟨b, o, none⟩) n c)
theorem agg3_rel {R : Ren} {a b c a' b' c' : Value} (h1 : VRel R a a') (h2 : VRel R b b') (h3 : VRel R c c') : VRel R (.agg #[a, b, c]) (.agg #[a', b', c']) := by
  have h := VRels.cons h1 (.cons h2 (.cons h3 (.nil R)))
  exact .agg rfl fun i v v' x y => h.2 i v v' (by simpa using x) (by simpa using y)
theorem none_calls (k l lsn : Int) (d : Value) (hd : Sl d) (w : World) : Calls Tryz.prog 4 #[.agg #[.int .i64 k, .int .i64 l, d], .int .i64 lsn] w fun e w' => e = .returned (.bool true) ∧ Below w.heap.size w w' := by
  have fin : ∀ {p : Option Addr} {m c : Nat} {R : Ren}, PlainAddr p → (∀ id, 4 ≤ id → R id = none) → VRel R (.slice p m c) d → Calls Tryz.prog 4 #[.agg #[.int .i64 k, .int .i64 l, d], .int .i64 lsn] w fun e w' => e = .returned (.bool true) ∧ Below w.heap.size w w' := by
    intro p m c R hp hR hv
    refine Calls.mono (lg_call (none_ok (n := 34) (H := ⟨.nil, 4⟩) k l lsn p m c hp) (HRel.blank hR w) (.cons (agg3_rel (.int _ _) (.int _ _) hv) (.cons (.int _ _) (.nil R)))) fun e w' he => ?_
    obtain ⟨v, v', H', rfl, rfl, R', h1, h2, h3⟩ := he
    cases h2
    exact ⟨rfl, h3.below_all⟩
  cases hd with
  | nil => exact fin (R := fun _ => none) (.inl rfl) (fun _ _ => rfl) .nilSlice
  | «at» b o n c h =>
    refine fin (p := some ⟨0, 0, none⟩) (m := n) (c := c) (R := fun id => if id = 0 then some ⟨b, o, 0, 0, 0⟩ else none) (.inr ⟨0, 0, rfl⟩) (fun id h => if_neg (by omega)) ?_
    simpa using VRel.slice (R := fun id => if id = 0 then some ⟨b, o, 0, 0, 0⟩ else none) (id := 0) (p := ⟨b, o, 0, 0, 0⟩) (by simp) 0 n c c h (.inl rfl)

theorem own : ownKnob Tryz.prog.godebug = none := by kernel_rfl
theorem laidOut : laidOutB Tryz.prog = true := by kernel_rfl
theorem cells57 : Tryz.prog.cellTypes Tryz.prog.depth 57 = some [3, 2, 46] := by kernel_rfl
theorem cell_int {w : World} {r : Reach} {b : Nat} {t : TypeId} {k : IntKind} {v : Value} (ht : Tryz.prog.underlying t = some (.int k)) (h : Cell.okWide Tryz.prog w r b t v) : ∃ n, v = .int k n := by
  simp only [Cell.okWide, ht] at h
  cases v <;> simp_all [Cell.ok]
theorem cell_sl {w : World} {r : Reach} {b : Nat} {t e : TypeId} {v : Value} (ht : Tryz.prog.underlying t = some (.slice e)) (h : Cell.okWide Tryz.prog w r b t v) : Sl v := by
  simp only [Cell.okWide, ht] at h
  cases v with
  | slice a n c =>
    cases a with
    | none =>
      simp only [Cell.ok, ht] at h
      split at h <;> simp_all
      exact .nil
    | some a =>
      simp only [Cell.ok, ht] at h
      obtain ⟨h1, h2, h3⟩ := h
      obtain ⟨blk, off, spot⟩ := a
      have : spot = none := h3.2.1
      subst this
      exact .at _ _ _ _ h1
  | _ => simp_all [Cell.ok]
theorem call_form {w : World} {r : Reach} {b : Nat} {v : Value} (h : Value.okWide Tryz.prog w r b 57 v) : ∃ k l d, v = .agg #[.int .i64 k, .int .i64 l, d] ∧ Sl d := by
  obtain ⟨cs, rfl, hsz⟩ := okWide_struct Tryz.underlying57 h
  simp only [Value.okWide, Tryz.underlying57] at h
  obtain ⟨cs', e, _, ts, hts, _, hc⟩ := h
  injection e with e; subst e
  rw [cells57] at hts
  injection hts with hts; subst hts
  obtain ⟨c0, c1, c2, rfl⟩ := Joins.array3 (hsz.trans (show Tryz.prog.cellsOf 57 = 3 by kernel_rfl))
  obtain ⟨u0, a0, b0⟩ := hc 0 c0 rfl
  obtain ⟨u1, a1, b1⟩ := hc 1 c1 rfl
  obtain ⟨u2, a2, b2⟩ := hc 2 c2 rfl
  simp at a0 a1 a2
  subst a0; subst a1; subst a2
  obtain ⟨k, rfl⟩ := cell_int Tryz.underlying3 b0
  obtain ⟨l, rfl⟩ := cell_int Tryz.underlying2 b1
  exact ⟨k, l, c2, rfl, cell_sl Tryz.underlying46 b2⟩

theorem none_lifted (os : Os) (started : os.Started) (H : Type) (enc : TypeId × Value → H) :
    ReturnsInHanded {} Tryz.checked os 4 .any (Rows.walNoneSpec.pre6 enc Tryz.prog Tryz.f4 Rows.walNoneRow.domain false) (Rows.walNoneSpec.post enc Tryz.prog Tryz.f4 false true false false) := by
  refine returnsInHanded_of_change (C := Tryz.checked) own started (by kernel_rfl) Tryz.func4
    (ChangeSpec.witness6 (enc := enc) (C := Tryz.checked) false ⟨#[], #[.agg #[.int .i64 0, .int .i64 0, .slice none 0 0], .int .i64 0], []⟩ 8 (by kernel_rfl) (by kernel_rfl) (by kernel_rfl) (by kernel_rfl)) ?_
  intro W base args ds gs before hval0 hW hcnd _
  have hval : ∀ (j : Nat) t v, Tryz.f4.params[j]? = some t → args[j]? = some v → Value.okWide Tryz.prog W .any base t v := hval0
  have hW' := hW
  obtain ⟨p, q, hA0, hV, rfl, hfz, hnd⟩ := hW
  have hA : DataW.TrodAll enc Tryz.prog W 0 (fun _ => true) true Tryz.f4.params.toList args.toList ds p := hA0
  rw [Tryz.params4] at hA hval
  obtain ⟨v0, vs0, d0, ds0, p0, q0, hargs, rfl, rfl, h0, r0⟩ := trodAll_cons hA
  obtain ⟨v1, vs1, d1, ds1, p1, q1, rfl, rfl, rfl, h1, r1⟩ := trodAll_cons r0
  obtain ⟨rfl, rfl, rfl⟩ := trodAll_nil r1
  obtain rfl : args = #[v0, v1] := by cases args; simp_all
  obtain ⟨rfl, rfl⟩ := trodVars_none hV
  obtain ⟨k, l, d, rfl, hd⟩ := call_form (hval 0 57 v0 rfl rfl)
  obtain ⟨a1, rfl, rfl, rfl, w1⟩ := open_int Tryz.underlying2 (hval 1 2 v1 rfl rfl) h1
  have k0 := h0
  have lt0 : ∀ x ∈ p0, x.block < W.heap.size := by obtain ⟨m, hm⟩ := k0; exact DataW.trod_lt m _ _ _ hm
  clear hA0 hval0 h0
  refine (none_calls k l a1 d hd W).mono fun e W' ⟨he, bel⟩ => ?_
  subst he
  exact ⟨_, rfl, _, _, _, [], _, [], hW', trodAll_mk1 (shut_bool Tryz.underlying4 _), (trodAll_cons_mk (Below.trod laidOut (by kernel_rfl) (of_decide_eq_true (by kernel_rfl)) k0 bel lt0) (trodAll_cons_mk (shut_int Tryz.underlying2 w1) trodAll_mk0)), rfl, bel.frame _, fun h => by cases h⟩

theorem walNone_joined : joinedFacts Tryz.pinned.checked.prog 4 Tryz.f4 Rows.walNoneSpec Rows.walNoneRow = true := by
  show joinedFacts Tryz.prog 4 Tryz.f4 Rows.walNoneSpec Rows.walNoneRow = true
  unfold joinedFacts
  rw [walNone_fact0, walNone_fact1, walNone_fact2, walNone_fact3, walNone_fact4, walNone_fact5, walNone_fact6, walNone_fact7, walNone_fact8, walNone_fact9, walNone_fact10, walNone_fact11, walNone_fact12, walNone_fact13, walNone_fact14, walNone_fact15, walNone_fact16, walNone_fact17, walNone_fact18, walNone_fact19, walNone_fact20, walNone_fact21, walNone_fact22, walNone_fact23, walNone_fact24, walNone_fact25, walNone_fact26, walNone_fact27]
  rw [if_pos (show Rows.walNoneRow.domain.isEmpty = true from rfl)]
  rw [walNone_fact28, walNone_fact29, walNone_fact30, walNone_fact31]
  rfl


theorem walNone_holds : Rows.WalNoneSaid :=
  OpenClaim.holds_of_wide 4 Tryz.f4 rfl rfl rfl rfl rfl rfl rfl ⟨rfl, rfl, rfl, rfl, rfl⟩ rfl rfl rfl rfl rfl walNone_func Tryz.func4 walNone_joined
    (of_decide_eq_true (by kernel_rfl)) (by unfold Func.isWrapper; first | (rw [if_pos (by decide +kernel)]; kernel_rfl) | (rw [if_neg (by decide +kernel)]; exact ⟨rfl, rfl⟩))
    (fun os started H enc _ => none_lifted os started H enc)
#print axioms walNone_holds
end Go.Proofs.YtiedaccgagnofaaGreat
