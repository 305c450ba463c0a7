/- Each operation of the second run, whole: the list. -/
import Derived.Test.YtiedaccgagnofaaGreatN
namespace Go.Proofs.YtiedaccgagnofaaGreat
open Go.RowKit

section
variable {C : Ctx} (hC : C.Sound) {R : Ren} {w0 : Fr} {w : World} {H H' : LH} {ρ ρ' : Operand → Value}

theorem bool_eq {c : Operand} {b : Bool} (h : VRel R (ρ c) (ρ' c)) (hc : ρ c = .bool b) : ρ' c = .bool b := by
  rw [hc] at h; generalize ρ' c = v at *; cases h; rfl

theorem lopPick_ok {c a b : Operand} {x : LNext} (h : HRel R w0 H w) (hc : VRel R (ρ c) (ρ' c)) (ha : VRel R (ρ a) (ρ' a)) (hb : VRel R (ρ b) (ρ' b)) (hl : lopPick ρ H c a b = some (x, H')) :
    Runs C R w0 H' (do pure (.value (if ← asBool (ρ' c) then ρ' a else ρ' b))) w x := by
  unfold lopPick at hl
  split at hl
  · rename_i e
    injection hl with hl; injection hl with h1 h2; subst h1; subst h2
    rw [bool_eq hc e]
    exact runs_pure h (.value ha)
  · rename_i e
    injection hl with hl; injection hl with h1 h2; subst h1; subst h2
    rw [bool_eq hc e]
    exact runs_pure h (.value hb)
  · cases hl

theorem lbyteAt_ok {s : ByteArray} {k : IntKind} {n : Int} {t : TypeId} {r : Value} (hd : C.P.underlying t = some .string) (hl : lbyteAt s n = some r) : (Instr.index t (.string s) (.int k n)).run C.P w = .ok r w ∧ flat r = true := by
  unfold lbyteAt at hl
  split at hl
  · rename_i m
    split at hl
    · rename_i b hb
      injection hl with hl; subst hl
      refine ⟨?_, rfl⟩
      have h1 : s[m]? = some b := by
        have h2 : m < s.data.toList.length := (List.getElem?_eq_some_iff.1 hb).1
        have h3 : m < s.size := by rw [Array.length_toList] at h2; exact h2
        rw [getElem?_pos s m h3]
        have h4 := (List.getElem?_eq_some_iff.1 hb).2
        congr 1
      have h5 : (0 : Int) ≤ Int.ofNat m := Int.natCast_nonneg m
      simp [Instr.index, asIntOf, run_underlying hd, h1]
    · cases hl
  · cases hl

 include hC in
theorem lopIndex_ok {t : TypeId} {a i : Operand} {x : LNext} (h : HRel R w0 H w) (ha : VRel R (ρ a) (ρ' a)) (hi : VRel R (ρ i) (ρ' i)) (hl : lopIndex C ρ H t a i = some (x, H')) :
    Runs C R w0 H' (do pure (.value (← Instr.index t (ρ' a) (ρ' i)))) w x := by
  unfold lopIndex at hl
  split at hl
  · obtain ⟨e, hl⟩ := flats_drop hi hl
    rw [e]
    exact runs_v h hl fun r hr => lindexAgg_ok hC.tab ha hr
  · rename_i b hb
    split at hl
    · rename_i k n hn hd
      rw [hb] at ha; rw [hn] at hi
      have e1 : ρ' a = .string b := by generalize ρ' a = v at *; cases ha; rfl
      have e2 : ρ' i = .int k n := by generalize ρ' i = v at *; cases hi; rfl
      rw [e1, e2]
      exact runs_v h hl fun r hr => by
        have := lbyteAt_ok (k := k) (w := w) (hC.tab.desc _ _ hd) hr
        exact ⟨r, this.1, VRel.of_flat R this.2⟩
    · cases hl
  · cases hl

theorem lslice_desc {C : Tab} {t : TypeId} {x r : Value} {lo hi mx : Option Value} (hl : lslice C H t x lo hi mx = some r) : ∃ d, C.desc t = some d ∧ ∀ n e, d ≠ .array n e := by
  unfold lslice at hl
  split at hl
  all_goals first | (cases hl; done) | exact ⟨_, by assumption, fun _ _ => by simp⟩

 include hC in
theorem lopSlice_ok {o : Oper} {t : TypeId} {a : Operand} {lo hi mx : Option Operand} {x : LNext} (h : HRel R w0 H w) (eo : o.op = .slice t a lo hi mx) (ho : ∀ x ∈ o.op.operands, VRel R (ρ x) (ρ' x)) (hl : lopSlice C ρ H o t a lo hi mx = some (x, H')) :
    Runs C R w0 H' (execOp ρ' o) w x := by
  have ha : VRel R (ρ a) (ρ' a) := ho a (by rw [eo]; simp [Op.operands])
  have hlo : ∀ x, lo = some x → VRel R (ρ x) (ρ' x) := fun x e => ho x (by rw [eo, e]; simp [Op.operands])
  have hhi : ∀ x, hi = some x → VRel R (ρ x) (ρ' x) := fun x e => ho x (by rw [eo, e]; simp [Op.operands])
  have hmx : ∀ x, mx = some x → VRel R (ρ x) (ρ' x) := fun x e => ho x (by rw [eo, e]; simp [Op.operands])
  have he : execOp ρ' o = (do pure (.value (← Instr.sliceAt t (ρ' a) (lo.map ρ') (hi.map ρ') (mx.map ρ')))) := by unfold execOp; simp only [eo]
  unfold lopSlice at hl
  split at hl
  · rename_i b n c ea
    obtain ⟨e1, hl⟩ := flats_drop? hlo hl
    obtain ⟨e2, hl⟩ := flats_drop? hhi hl
    obtain ⟨e3, hl⟩ := flats_drop? hmx hl
    rw [he, e1, e2, e3]
    refine runs_v h hl fun r hr => ?_
    have hs := lslice_ok hC.tab h ha hr
    obtain ⟨r', g1, g2⟩ := hs
    refine ⟨r', ?_, g2⟩
    obtain ⟨d, hd, hn⟩ := lslice_desc hr
    rw [← g1]
    unfold Instr.sliceAt
    simp only [Sem.run_bind, run_underlying (hC.tab.desc _ _ hd), Result.andThen_ok]
  · obtain ⟨e1, hl⟩ := flats_drop? hlo hl
    obtain ⟨e2, hl⟩ := flats_drop? hhi hl
    obtain ⟨e3, hl⟩ := flats_drop? hmx hl
    rw [he, e1, e2, e3]
    exact runs_v h hl fun r hr => lsliceArr_ok hC.tab ha hr
  · exact lflat_ok h (fun cs b => by rw [eo]; simp) ho hl

 include hC in
theorem lopAssert_ok {o : Oper} {a : Operand} {xt t : TypeId} {ok : Bool} {x : LNext} (h : HRel R w0 H w) (eo : o.op = .typeAssert a xt t ok) (ho : ∀ x ∈ o.op.operands, VRel R (ρ x) (ρ' x)) (hl : lopAssert C ρ H o a t ok = some (x, H')) :
    Runs C R w0 H' (execOp ρ' o) w x := by
  have ha : VRel R (ρ a) (ρ' a) := ho a (by rw [eo]; simp [Op.operands])
  have he : execOp ρ' o = (do pure (.value (← Instr.typeAssert (ρ' a) xt t ok))) := by unfold execOp; simp only [eo]
  unfold lopAssert at hl
  split at hl
  · rw [he]
    exact runs_v h hl fun r hr => lassert_ok hC.tab ha hr
  · exact lflat_ok h (fun cs b => by rw [eo]; simp) ho hl

 include hC in
theorem run_nilAhead {t : TypeId} {v : Value} {n : String} {f : FuncId} (hm : C.meth t n = some f) (w : World) (k : Nat) : (nilAhead (k + 1) t v n).run C.P w = .ok (some false) w := by
  obtain ⟨i, m, h1, h2, h3, h4, d, h5, h6⟩ := hC.meth t n f hm
  cases d <;> first | exact absurd rfl (h6 _) | simp [nilAhead, typeInfo, h1, h2, h3, h4, followBlind, run_underlying h5]

 include hC in
theorem lnilCheck_ok {o : Oper} {a : Operand} {x : LNext} (h : HRel R w0 H w) (eo : o.op = .nilCheck a) (ha : VRel R (ρ a) (ρ' a)) (hl : okv H (lnilCheck C (ρ a)) = some (x, H')) :
    Runs C R w0 H' (execOp ρ' o) w x := by
  unfold okv at hl
  split at hl
  · rename_i r hr
    injection hl with hl; injection hl with h1 h2; subst h1; subst h2
    have he : r = ρ a := by
      unfold lnilCheck at hr
      split at hr
      · injection hr with hr; exact hr.symm
      · injection hr with hr; exact hr.symm
      · split at hr
        · split at hr
          · split at hr
            · injection hr with hr; exact hr.symm
            · cases hr
          · cases hr
        · injection hr with hr; exact hr.symm
      · cases hr
    subst he
    suffices hgo : (execOp ρ' o).run C.P w = .ok (.value (ρ' a)) w from ⟨R, w, _, hgo, Ren.le_refl R, h, .value ha⟩
    unfold execOp
    simp only [eo]
    generalize ρ a = u at *
    generalize ρ' a = v at *
    cases ha with
    | nilPtr => simp [lnilCheck] at hr
    | nilIface => simp [lnilCheck] at hr
    | nilFunc => simp [lnilCheck] at hr
    | ptr => rfl
    | iface => rfl
    | yield => rfl
    | func fn hf h1 h2 hb hc =>
      rename_i b b' c c'
      cases fn with
      | method name =>
        simp only [lnilCheck] at hr
        split at hr
        · rename_i t q hq
          split at hr
          · rename_i f hm
            have : ∃ q', b'[0]? = some (.iface t q') := by
              have hlt : 0 < b.size := by
                rcases Nat.lt_or_ge 0 b.size with h | h
                · exact h
                · rw [Array.getElem?_eq_none h] at hq; cases hq
              have e2 : b'[0]? = some (b'[0]'(h1 ▸ hlt)) := Array.getElem?_eq_getElem _
              have := hb 0 _ _ hq e2
              generalize b'[0]'(h1 ▸ hlt) = z at *
              cases this with
              | iface _ _ => exact ⟨_, e2⟩
            obtain ⟨q', hq'⟩ := this
            have hn := run_nilAhead hC (v := q') hm w (C.P.types.size + 99)
            have hd : C.P.types.size + Made.depth = C.P.types.size + 99 + 1 := rfl
            simp only [hq', Sem.run_bind, program, Sem.run, Result.andThen_ok]
            rw [hd, hn]
            rfl
          · cases hr
        · cases hr
      | yield l => simp [calm] at hf
      | _ => rfl
    | _ => simp [lnilCheck] at hr
  · cases hl

 include hC in
theorem len_map {x x' : Value} {es : Array MapEntry} {c : Nat} {t ty k e : TypeId} (h : HRel R w0 H w) (hx : VRel R x x') (hm : lmapOf H x = some (es, c)) (ht : C.desc t = some (.map k e)) :
    ∃ n : Nat, (Builtin.len_ #[t] ty #[x']).run C.P w = .ok (goInt n) w ∧ es.size = n := by
  cases hx with
  | nilMap =>
    simp only [lmapOf] at hm
    injection hm with hm; injection hm with h1 h2; subst h1
    exact ⟨0, by simp [Builtin.len_, run_underlying (hC.tab.desc _ _ ht)], rfl⟩
  | @map id p hp =>
    simp only [lmapOf] at hm
    split at hm
    · rename_i es' c' hat
      injection hm with hm; injection hm with h1 h2; subst h1; subst h2
      obtain ⟨es2, hh, hr⟩ := h.mapAt hp hat
      have hgo := run_getObj_at (P := C.P) hh (fun _ _ _ => by simp)
      exact ⟨es2.size, by simp [Builtin.len_, run_underlying (hC.tab.desc _ _ ht), hgo], hr.1⟩
    · cases hm
  | _ => simp [lmapOf] at hm

 include hC in
theorem lopLen_ok {o : Oper} {c : Call} {a : Operand} {t : TypeId} {x : LNext} (h : HRel R w0 H w) (eo : o.op = .call c) (ec : c.callee = .builtin .len) (ea : c.args.toList = [a]) (et : c.argTypes.toList = [t]) (ho : ∀ x ∈ o.op.operands, VRel R (ρ x) (ρ' x)) (hl : lopLen C ρ H o (ρ a) t = some (x, H')) :
    Runs C R w0 H' (execOp ρ' o) w x := by
  have ea' : c.args = #[a] := by rw [← Array.toArray_toList (xs := c.args), ea]
  have et' : c.argTypes = #[t] := by rw [← Array.toArray_toList (xs := c.argTypes), et]
  have ha : VRel R (ρ a) (ρ' a) := ho a (by rw [eo]; simp [Op.operands, Call.operands, ea'])
  have he : execOp ρ' o = (do pure (.value (← Builtin.len_ #[t] o.type #[ρ' a]))) := by
    unfold execOp; simp [eo, resolve, ec, ea', et', invoke, builtin]
  unfold lopLen at hl
  split at hl
  · rename_i b n k e hd hx
    injection hl with hl; injection hl with h1 h2; subst h1; subst h2
    have : ∃ b' k', ρ' a = .slice b' n k' := by rw [hd] at ha; generalize ρ' a = v at *; cases ha <;> exact ⟨_, _, rfl⟩
    obtain ⟨b', k', e'⟩ := this
    refine ⟨R, w, .value (goInt n), ?_, Ren.le_refl R, h, .value (VRel.of_flat R rfl)⟩
    rw [he, e']
    simp [Builtin.len_, run_underlying (hC.tab.desc _ _ hx)]
  · rename_i b hd hx
    injection hl with hl; injection hl with h1 h2; subst h1; subst h2
    have e' : ρ' a = .string b := by rw [hd] at ha; generalize ρ' a = v at *; cases ha; rfl
    refine ⟨R, w, .value (goInt b.data.toList.length), ?_, Ren.le_refl R, h, .value (VRel.of_flat R rfl)⟩
    rw [he, e']
    have hz : b.size = b.data.toList.length := by rw [Array.length_toList]; rfl
    simp only [Builtin.len_, run_underlying (hC.tab.desc _ _ hx), Sem.run_bind, Result.andThen_ok, List.getElem?_toArray, List.getElem?_cons_zero, Sem.run_pure, hz]
  · rename_i m k e hd hx
    split at hl
    · rename_i es cl hm
      injection hl with hl; injection hl with h1 h2; subst h1; subst h2
      rw [hd] at ha
      rw [hd] at hm
      obtain ⟨es', g1, g2⟩ := len_map hC (ty := o.type) h ha hm hx
      refine ⟨R, w, .value (goInt es'), ?_, Ren.le_refl R, h, .value (by rw [g2]; exact VRel.of_flat R rfl)⟩
      rw [he]
      simp [g1]
    · cases hl
  · exact lflat_ok h (fun cs b => by rw [eo]; simp) ho hl
end
end Go.Proofs.YtiedaccgagnofaaGreat
