/- Each operation of the second run, whole: the rest of the list. -/
import Derived.Test.YtiedaccgagnofaaGreatO
namespace Go.Proofs.YtiedaccgagnofaaGreat
open Go.RowKit

section
variable {C : Ctx} (hC : C.Sound) {R : Ren} {w0 : Fr} {w : World} {H H' : LH} {ρ ρ' : Operand → Value}

 include hC in
theorem lopEq_ok {o : Oper} {op : BinOp} {t : TypeId} {a b : Operand} {ot : TypeId} {same : Bool} {x : LNext} (h : HRel R w0 H w) (eo : o.op = .binOp op t a b ot) (hop : (op = .eql ∧ same = true) ∨ (op = .neq ∧ same = false)) (hni : lints op (ρ a) (ρ b) = none)
    (ho : ∀ x ∈ o.op.operands, VRel R (ρ x) (ρ' x)) (hl : lopEq C ρ H o t (ρ a) (ρ b) same = some (x, H')) : Runs C R w0 H' (execOp ρ' o) w x := by
  have ha : VRel R (ρ a) (ρ' a) := ho a (by rw [eo]; simp [Op.operands])
  have hb : VRel R (ρ b) (ρ' b) := ho b (by rw [eo]; simp [Op.operands])
  unfold lopEq at hl
  split at hl
  · rename_i r hr
    injection hl with hl; injection hl with h1 h2; subst h1; subst h2
    have he := leq_ok (w := w) hC.tab ha hb hr
    have hg := eqGuard_leq (C := C) (w := w) (op := op) (t := t) (x := a) (y := b) ha hb hr
    refine ⟨R, w, .value (.bool (r == same)), ?_, Ren.le_refl R, h, .value (VRel.of_flat R rfl)⟩
    unfold execOp
    simp only [eo, Sem.run_bind, hg, Result.andThen_ok]
    generalize ρ a = u at *
    generalize ρ b = v at *
    generalize ρ' a = u' at *
    generalize ρ' b = v' at *
    rcases hop with ⟨e1, e2⟩ | ⟨e1, e2⟩ <;> subst e1 <;> subst e2 <;>
      (unfold leq at hr; split at hr <;> first | (cases hr; done) | (cases ha <;> cases hb <;> simp [binOp, he] <;> cases r <;> rfl))
  · exact lflat_ok h (fun cs b => by rw [eo]; simp) ho hl

 include hC in
theorem lopBin_ok {o : Oper} {op : BinOp} {t : TypeId} {a b : Operand} {ot : TypeId} {x : LNext} (h : HRel R w0 H w) (eo : o.op = .binOp op t a b ot)
    (ho : ∀ x ∈ o.op.operands, VRel R (ρ x) (ρ' x)) (hl : lopBin C ρ H o op t (ρ a) (ρ b) = some (x, H')) : Runs C R w0 H' (execOp ρ' o) w x := by
  have ha : VRel R (ρ a) (ρ' a) := ho a (by rw [eo]; simp [Op.operands])
  have hb : VRel R (ρ b) (ρ' b) := ho b (by rw [eo]; simp [Op.operands])
  unfold lopBin at hl
  split at hl
  · rename_i r hr
    injection hl with hl; injection hl with h1 h2; subst h1; subst h2
    obtain ⟨f1, f2, k, m, k', n, e1, e2⟩ := lints_ints hr
    have e1' := ha.flat_eq f1
    have e2' := hb.flat_eq f2
    obtain ⟨g1, g2⟩ := lints_ok (P := C.P) (w := w) (t := t) hr
    refine ⟨R, w, .value r, ?_, Ren.le_refl R, h, .value (VRel.of_flat R g2)⟩
    unfold execOp
    simp only [eo, e1', e2', Sem.run_bind]
    rw [e1, e2] at g1 ⊢
    rw [eqGuard_int]
    simp [g1]
  · rename_i hni
    unfold lopBin2 at hl
    split at hl
    · exact lflat_ok h (fun cs b => by rw [eo]; simp) ho hl
    · split at hl
      · exact lopEq_ok hC h eo (.inl ⟨rfl, rfl⟩) hni ho hl
      · exact lopEq_ok hC h eo (.inr ⟨rfl, rfl⟩) hni ho hl
      · cases hl

 include hC in
theorem lopConvert_ok {o : Oper} {src dst : TypeId} {a : Operand} {x : LNext} (h : HRel R w0 H w) (eo : o.op = .convert src dst a)
    (ho : ∀ x ∈ o.op.operands, VRel R (ρ x) (ρ' x)) (hl : lopConvert C ρ H o src dst (ρ a) = some (x, H')) : Runs C R w0 H' (execOp ρ' o) w x := by
  have ha : VRel R (ρ a) (ρ' a) := ho a (by rw [eo]; simp [Op.operands])
  have he : execOp ρ' o = (do pure (.value (← convert src dst (ρ' a)))) := by unfold execOp; simp only [eo]
  unfold lopConvert at hl
  split at hl
  · rename_i k n en
    split at hl
    · rename_i d k' hs hd
      injection hl with hl; injection hl with h1 h2; subst h1; subst h2
      have e1 := ha.flat_eq (by rw [en]; rfl)
      refine ⟨R, w, .value (.int k' (lwrap k' n)), ?_, Ren.le_refl R, h, .value (VRel.of_flat R rfl)⟩
      rw [he, e1, en]
      simp [convert, run_underlying (hC.tab.desc _ _ hs), run_underlying (hC.tab.desc _ _ hd), Conv.intToInt, lwrap_ok]
    · exact lflat_ok h (fun cs b => by rw [eo]; simp) ho hl
  · rename_i ad n cap en
    split at hl
    · rename_i hsd
      have hsd := beq_t hsd
      subst hsd
      split at hl
      · rename_i e c e' s' hd hat
        split at hl
        · rename_i hu
          injection hl with hl; injection hl with h1 h2; subst h1; subst h2
          rw [en] at ha
          obtain ⟨w', g1, g2⟩ := lsame_ok hC.tab h ha hd hu hat
          exact ⟨R, w', .value (ρ' a), by rw [he]; simp [g1], Ren.le_refl R, g2, .value (by rw [en]; exact ha)⟩
        · cases hl
      · cases hl
    · rw [he]
      exact runs_v h hl fun r hr => by
        obtain ⟨g1, g2⟩ := ltoString_ok hC.tab h ha hr
        exact ⟨r, g1, VRel.of_flat R g2⟩
  · rename_i n cap en
    rw [he]
    exact runs_v h hl fun r hr => by
      obtain ⟨g1, g2⟩ := ltoString_ok hC.tab h ha hr
      exact ⟨r, g1, VRel.of_flat R g2⟩
  · exact lflat_ok h (fun cs b => by rw [eo]; simp) ho hl

theorem lopUn_ok {o : Oper} {op : UnOp} {t : TypeId} {a : Operand} {x : LNext} (h : HRel R w0 H w) (eo : o.op = .unOp op t a)
    (ho : ∀ x ∈ o.op.operands, VRel R (ρ x) (ρ' x)) (hl : lopUn C ρ H o op (ρ a) = some (x, H')) : Runs C R w0 H' (execOp ρ' o) w x := by
  have ha : VRel R (ρ a) (ρ' a) := ho a (by rw [eo]; simp [Op.operands])
  unfold lopUn at hl
  split at hl
  · rename_i b e
    injection hl with hl; injection hl with h1 h2; subst h1; subst h2
    have e1 := ha.flat_eq (by rw [e]; rfl)
    refine ⟨R, w, .value (.bool !b), ?_, Ren.le_refl R, h, .value (VRel.of_flat R rfl)⟩
    unfold execOp
    simp [eo, e1, e, Op.unary]
  · exact lflat_ok h (fun cs b => by rw [eo]; simp) ho hl

 include hC in
theorem lbuiltin_ok {o : Oper} {b : Builtin} {c : Call} {x : LNext} (h : HRel R w0 H w) (eo : o.op = .call c) (ec : c.callee = .builtin b)
    (ho : ∀ x ∈ o.op.operands, VRel R (ρ x) (ρ' x)) (hl : lbuiltin C ρ H b c o = some (x, H')) : Runs C R w0 H' (execOp ρ' o) w x := by
  have hargs : ∀ x ∈ c.args, VRel R (ρ x) (ρ' x) := fun x hx => ho x (by rw [eo]; simp [Op.operands, Call.operands, hx])
  have he : ∃ consts, execOp ρ' o = builtin b c.argTypes o.type consts (c.args.map ρ') := by
    unfold execOp; simp only [eo, resolve, ec]; exact ⟨_, rfl⟩
  obtain ⟨consts, he⟩ := he
  have two : ∀ {s x : Value}, c.args.toList.map ρ = [s, x] → ∃ s' x', c.args.map ρ' = #[s', x'] ∧ VRel R s s' ∧ VRel R x x' := fun {s x} e => by
    have hv := vrels_map hargs
    rw [Array.toList_map, e] at hv
    obtain ⟨s', l, e1, r1, hv⟩ := hv.uncons
    obtain ⟨x', l', e2, r2, hv⟩ := hv.uncons
    have : l' = [] := List.eq_nil_of_length_eq_zero (by have := hv.1; simpa using this.symm)
    subst this; subst e2
    exact ⟨s', x', by rw [← Array.toArray_toList (xs := c.args.map ρ'), e1], r1, r2⟩
  unfold lbuiltin at hl
  split at hl
  · rename_i s y t t2 e1 e2
    obtain ⟨s', y', e3, r1, r2⟩ := two e1
    have e4 : c.argTypes = #[t, t2] := by rw [← Array.toArray_toList (xs := c.argTypes), e2]
    rw [he, e3, e4]
    exact runs_vh hl fun r H1 hr => lappend_ok hC.tab h r1 r2 hr
  · rename_i y t e1 e2
    have hlen : ∃ a, c.args.toList = [a] ∧ ρ a = y := by
      cases hc : c.args.toList with
      | nil => rw [hc] at e1; simp at e1
      | cons a l =>
        rw [hc] at e1
        simp at e1
        exact ⟨a, by rw [e1.2], e1.1⟩
    obtain ⟨a, e3, e4⟩ := hlen
    rw [← e4] at hl
    exact lopLen_ok hC h eo ec e3 e2 ho hl
  · rename_i d y t t2 e1 e2
    obtain ⟨s', y', e3, r1, r2⟩ := two e1
    have e4 : c.argTypes = #[t, t2] := by rw [← Array.toArray_toList (xs := c.argTypes), e2]
    rw [he, e3, e4]
    exact runs_vh hl fun r H1 hr => by
      obtain ⟨r', w', g1, g2, g3⟩ := lcopy_ok (ty := o.type) (ts := #[t, t2]) hC.tab h r1 r2 rfl hr
      exact ⟨R, r', w', g1, Ren.le_refl R, g2, g3⟩
  · rename_i m k t t2 e1 e2
    obtain ⟨s', y', e3, r1, r2⟩ := two e1
    have e4 : c.argTypes = #[t, t2] := by rw [← Array.toArray_toList (xs := c.argTypes), e2]
    obtain ⟨e5, hl⟩ := flats_drop r2 hl
    rw [he, e3, e4, e5]
    split at hl
    · rename_i H1 hd
      injection hl with hl; injection hl with h1 h2; subst h1; subst h2
      obtain ⟨w', g1, g2⟩ := ldelete_ok (ty := o.type) (ts := #[t, t2]) hC.tab h r1 rfl hd
      exact ⟨R, w', .value (.tuple #[]), by simp [builtin, g1], Ren.le_refl R, g2, .value (VRel.of_flat1 R rfl)⟩
    · cases hl
  · injection hl with hl; injection hl with h1 h2; subst h1; subst h2
    rw [he]
    exact runs_pure h .recover
  · exact lflat_ok h (fun cs b => by rw [eo]; simp) ho hl

 include hC in
theorem lopCall_ok {o : Oper} {c : Call} {x : LNext} (h : HRel R w0 H w) (eo : o.op = .call c)
    (ho : ∀ x ∈ o.op.operands, VRel R (ρ x) (ρ' x)) (hl : lopCall C ρ H o c = some (x, H')) : Runs C R w0 H' (execOp ρ' o) w x := by
  have hargs : VRels R (c.args.map ρ).toList (c.args.map ρ').toList := vrels_map fun x hx => ho x (by rw [eo]; simp [Op.operands, Call.operands, hx])
  unfold lopCall at hl
  split at hl
  · rename_i b ec
    exact lbuiltin_ok hC h eo ec ho hl
  · rename_i f ec
    have hf : VRel R (ρ f) (ρ' f) := ho f (by rw [eo]; simp [Op.operands, Call.operands, ec])
    refine runs_of ?_ (lcallv_ok hC h hf hargs hl)
    unfold execOp
    simp only [eo, resolve, ec]
  · rename_i r name ec
    have hf : VRel R (ρ r) (ρ' r) := ho r (by rw [eo]; simp [Op.operands, Call.operands, ec])
    refine runs_of ?_ (lmethod_ok hC h hf hargs hl)
    unfold execOp
    have e : (#[ρ' r] ++ c.args.map ρ').extract 1 (#[ρ' r] ++ c.args.map ρ').size = c.args.map ρ' := by
      apply Array.toList_inj.1
      rw [extract_tail]
      simp
    have e0 : (#[ρ' r] ++ c.args.map ρ')[0]? = some (ρ' r) := by rw [← Array.getElem?_toList]; simp
    simp only [eo, resolve, ec, Sem.run_bind, Sem.run_pure, Result.andThen_ok, invoke, e0, e]

theorem lopDefer_ok {o : Oper} {c : Call} {x : LNext} (h : HRel R w0 H w) (eo : o.op = .defer c)
    (ho : ∀ x ∈ o.op.operands, VRel R (ρ x) (ρ' x)) (hl : lopDefer ρ H c = some (x, H')) : Runs C R w0 H' (execOp ρ' o) w x := by
  have hargs : VRels R (c.args.map ρ).toList (c.args.map ρ').toList := vrels_map fun x hx => ho x (by rw [eo]; simp [Op.operands, Call.operands, hx])
  unfold lopDefer at hl
  split at hl
  · rename_i f ec
    have hf : VRel R (ρ f) (ρ' f) := ho f (by rw [eo]; simp [Op.operands, Call.operands, ec])
    split at hl
    · rename_i g first captured e
      injection hl with hl; injection hl with h1 h2; subst h1; subst h2
      rw [e] at hf
      have : ∃ a' c', ρ' f = .func (.func g) a' c' ∧ VRels R first.toList a'.toList ∧ VRels R captured.toList c'.toList := by
        generalize ρ' f = v at *
        cases hf with
        | func _ _ h1 h2 ha' hc' =>
          exact ⟨_, _, rfl, ⟨by simpa using h1, fun i v v' p q => ha' i v v' (by simpa using p) (by simpa using q)⟩, ⟨by simpa using h2, fun i v v' p q => hc' i v v' (by simpa using p) (by simpa using q)⟩⟩
      obtain ⟨a', c', e1, e2, e3⟩ := this
      refine ⟨R, w, .defer { target := .fn (.func g) c', args := a' ++ c.args.map ρ' }, ?_, Ren.le_refl R, h, .defer (.call g e3 ?_)⟩
      · unfold execOp
        simp [eo, resolve, ec, e1, Deferred.ofValue]
      · simpa using e2.append hargs
    · cases hl
  · cases hl
end
end Go.Proofs.YtiedaccgagnofaaGreat
