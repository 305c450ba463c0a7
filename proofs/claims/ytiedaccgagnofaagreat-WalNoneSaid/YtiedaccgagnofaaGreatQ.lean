/- Each operation of the second run: all. -/
import Derived.Test.YtiedaccgagnofaaGreatP
namespace Go.Proofs.YtiedaccgagnofaaGreat
open Go.RowKit

section
variable {C : Ctx} (hC : C.Sound) {R : Ren} {w0 : Fr} {w : World} {H H' : LH} {ρ ρ' : Operand → Value}

 include hC in
theorem lop_ok {o : Oper} {x : LNext} (h : HRel R w0 H w) (ho : ∀ x ∈ o.op.operands, VRel R (ρ x) (ρ' x)) (hl : lop C ρ H o = some (x, H')) : Runs C R w0 H' (execOp ρ' o) w x := by
  unfold lop at hl
  split at hl <;> rename_i eo
  · rename_i a
    have ha : VRel R (ρ a) (ρ' a) := ho a (by rw [eo]; simp [Op.operands])
    injection hl with hl; injection hl with h1 h2; subst h1; subst h2
    unfold execOp; simp only [eo]
    exact runs_pure h (.value ha)
  · rename_i a
    have ha : VRel R (ρ a) (ρ' a) := ho a (by rw [eo]; simp [Op.operands])
    injection hl with hl; injection hl with h1 h2; subst h1; subst h2
    unfold execOp; simp only [eo]
    exact runs_pure h (.value ha)
  · unfold execOp; simp only [eo]
    exact lopPick_ok h (ho _ (by rw [eo]; simp [Op.operands])) (ho _ (by rw [eo]; simp [Op.operands])) (ho _ (by rw [eo]; simp [Op.operands])) hl
  · unfold execOp; simp only [eo]
    exact runs_vh hl fun r H1 hr => lalloc_ok hC.tab h hr
  · rename_i e a
    have ha : VRel R (ρ a) (ρ' a) := ho a (by rw [eo]; simp [Op.operands])
    unfold execOp; simp only [eo]
    exact runs_vh hl fun r H1 hr => by
      obtain ⟨R', r', g1, g2, g3, g4⟩ := lnew_ok (P := C.P) h ha hr
      exact ⟨R', r', _, g1, g2, g3, g4⟩
  · rename_i t ps
    have hp := prels_map (R := R) (ρ := ρ) (ρ' := ρ') (xs := ps) fun x hx => ho x (by rw [eo]; simpa [Op.operands] using hx)
    have e : (ps.map fun x => (x.1, ρ' x.2)) = (ps.toList.map fun p => (p.1, ρ' p.2)).toArray := by
      apply Array.toList_inj.1; simp
    unfold execOp; simp only [eo]
    rw [e]
    exact runs_v h hl fun r hr => lbuild_ok hC.tab hp hr
  · rename_i t n ps
    have hp := prels_map (R := R) (ρ := ρ) (ρ' := ρ') (xs := ps) fun x hx => ho x (by rw [eo]; simpa [Op.operands] using hx)
    have e : (ps.map fun x => (x.1, ρ' x.2)) = (ps.toList.map fun p => (p.1, ρ' p.2)).toArray := by
      apply Array.toList_inj.1; simp
    unfold execOp; simp only [eo]
    rw [e]
    exact runs_vh hl fun r H1 hr => lbuildSlice_ok hC.tab h hp hr
  · unfold execOp; simp only [eo]
    exact runs_v h hl fun r hr => lload_ok hC.tab h (ho _ (by rw [eo]; simp [Op.operands])) hr
  · unfold execOp; simp only [eo]
    exact runs_u hl fun H1 hr => lstore_ok hC.tab h (ho _ (by rw [eo]; simp [Op.operands])) (ho _ (by rw [eo]; simp [Op.operands])) hr
  · exact lnilCheck_ok hC h eo (ho _ (by rw [eo]; simp [Op.operands])) hl
  · unfold execOp; simp only [eo]
    exact runs_v h hl fun r hr => lfieldAddr_ok hC.tab (ho _ (by rw [eo]; simp [Op.operands])) hr
  · unfold execOp; simp only [eo]
    exact runs_v h hl fun r hr => lfield_ok hC.tab (ho _ (by rw [eo]; simp [Op.operands])) hr
  · rename_i t a i
    obtain ⟨e, hl⟩ := flats_drop (ho i (by rw [eo]; simp [Op.operands])) hl
    unfold execOp; simp only [eo, e]
    exact runs_v h hl fun r hr => lindexAddr_ok hC.tab (ho _ (by rw [eo]; simp [Op.operands])) hr
  · unfold execOp; simp only [eo]
    exact lopIndex_ok hC h (ho _ (by rw [eo]; simp [Op.operands])) (ho _ (by rw [eo]; simp [Op.operands])) hl
  · exact lopSlice_ok hC h eo ho hl
  · unfold execOp; simp only [eo]
    exact runs_v h hl fun r hr => lextract_ok (ho _ (by rw [eo]; simp [Op.operands])) hr
  · unfold execOp; simp only [eo]
    exact runs_v h hl fun r hr => lmakeIface_ok hC.tab (ho _ (by rw [eo]; simp [Op.operands])) hr
  · rename_i fn first captured
    unfold lopFunc at hl
    split at hl
    · rename_i hc
      injection hl with hl; injection hl with h1 h2; subst h1; subst h2
      have h1 := vrels_map (R := R) (ρ := ρ) (ρ' := ρ') (xs := first) fun x hx => ho x (by rw [eo]; simp [Op.operands, hx])
      have h2 := vrels_map (R := R) (ρ := ρ) (ρ' := ρ') (xs := captured) fun x hx => ho x (by rw [eo]; simp [Op.operands, hx])
      unfold execOp; simp only [eo]
      refine runs_pure h (.value (.func fn hc (by simp) (by simp) (fun i v v' a b => h1.2 i v v' ?_ ?_) (fun i v v' a b => h2.2 i v v' ?_ ?_)))
      all_goals (rw [Array.getElem?_toList]; assumption)
    · cases hl
  · exact lopAssert_ok hC h eo ho hl
  · unfold execOp; simp only [eo]
    exact runs_vh hl fun r H1 hr => lmakeMap_ok h hr
  · rename_i t l c
    obtain ⟨e1, hl⟩ := flats_drop (ho l (by rw [eo]; simp [Op.operands])) hl
    obtain ⟨e2, hl⟩ := flats_drop (ho c (by rw [eo]; simp [Op.operands])) hl
    unfold execOp; simp only [eo, e1, e2]
    exact runs_vh hl fun r H1 hr => lmakeSlice_ok hC.tab h hr
  · rename_i t a k ok
    obtain ⟨e1, hl⟩ := flats_drop (ho k (by rw [eo]; simp [Op.operands])) hl
    unfold execOp; simp only [eo, e1]
    exact runs_v h hl fun r hr => llookup_ok hC.tab h (ho _ (by rw [eo]; simp [Op.operands])) hr
  · unfold execOp; simp only [eo]
    exact runs_vh hl fun r H1 hr => lrange_ok hC.tab h (ho _ (by rw [eo]; simp [Op.operands])) hr
  · unfold execOp; simp only [eo]
    exact runs_vh hl fun r H1 hr => by
      obtain ⟨r', w', g1, g2, g3⟩ := lnext_ok (P := C.P) (ty := o.type) h (ho _ (by rw [eo]; simp [Op.operands])) hr
      exact ⟨R, r', w', g1, Ren.le_refl R, g2, g3⟩
  · unfold execOp; simp only [eo]
    exact runs_v h hl fun r hr => lentry_ok h (ho _ (by rw [eo]; simp [Op.operands])) hr
  · rename_i t m k v
    obtain ⟨e1, hl⟩ := flats_drop (ho k (by rw [eo]; simp [Op.operands])) hl
    unfold execOp; simp only [eo, e1]
    exact runs_u hl fun H1 hr => lupdate_ok hC.tab h (ho _ (by rw [eo]; simp [Op.operands])) (ho _ (by rw [eo]; simp [Op.operands])) hr
  · exact lopBin_ok hC h eo ho hl
  · exact lopConvert_ok hC h eo ho hl
  · exact lopUn_ok h eo ho hl
  · exact lopCall_ok hC h eo ho hl
  · exact lopDefer_ok h eo ho hl
  · cases hl
end
end Go.Proofs.YtiedaccgagnofaaGreat
