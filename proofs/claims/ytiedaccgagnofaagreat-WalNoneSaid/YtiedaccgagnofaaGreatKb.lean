/- The second run, with what follows handed on: operations, regions, code, calls. -/
import Derived.Test.YtiedaccgagnofaaGreatKa
namespace Go.Proofs.YtiedaccgagnofaaGreat
open Go.RowKit

section
variable {β : Type}
theorem kval_ok {C : Ctx} {ρ : Operand → Value} {H : LH} {o : Oper} {K : Value → Option β} {r : β} (hC : C.toTab.Ok C.P) (hρ : ∀ v, ρ (.const v) = v) (h : kval C ρ H o K = some r) : ∃ v, lop C ρ H o = some (.value v, H) ∧ K v = some r := by
  obtain ⟨dst, op, ty, pos, after, guard⟩ := o
  unfold kval at h
  unfold lop
  cases op with
  | move x => exact ⟨_, rfl, h⟩
  | assign x => exact ⟨_, rfl, h⟩
  | pick c a b =>
    obtain ⟨v, h1, h2⟩ := ko_ok h
    refine ⟨v, ?_, h2⟩
    unfold kpick at h1
    simp only [lopPick]
    split at h1
    · rename_i hc; rw [hc]; injection h1 with h1; subst h1; rfl
    · rename_i hc; rw [hc]; injection h1 with h1; subst h1; rfl
    · cases h1
  | build t parts => obtain ⟨v, h1, h2⟩ := ko_ok h; exact ⟨v, okv_some h1, h2⟩
  | load t a => obtain ⟨v, h1, h2⟩ := ko_ok h; exact ⟨v, okv_some h1, h2⟩
  | nilCheck x => obtain ⟨v, h1, h2⟩ := ko_ok h; exact ⟨v, okv_some h1, h2⟩
  | fieldAddr st x f => obtain ⟨v, h1, h2⟩ := ko_ok h; exact ⟨v, okv_some h1, h2⟩
  | field t x f => obtain ⟨v, h1, h2⟩ := ko_ok h; exact ⟨v, okv_some h1, h2⟩
  | indexAddr t x i => obtain ⟨v, h1, h2⟩ := ko_ok h; exact ⟨v, ifFlat_okv h1, h2⟩
  | index t x i =>
    obtain ⟨v, h1, h2⟩ := ko_ok h
    refine ⟨v, ?_, h2⟩
    unfold kindex at h1
    simp only [lopIndex]
    split at h1
    · rename_i a hx; rw [hx] at h1 ⊢; exact ifFlat_okv h1
    · rename_i b hx
      rw [hx]
      simp only
      split at h1
      · rename_i k n hi hd; rw [hi, hd]; exact okv_some h1
      · cases h1
    · cases h1
  | slice t x lo hi mx =>
    obtain ⟨v, h1, h2⟩ := ko_ok h
    refine ⟨v, ?_, h2⟩
    unfold kslice at h1
    simp only [lopSlice]
    split at h1
    · rename_i b n c hx
      rw [hx] at h1 ⊢
      refine ifFlat?_okv (fun v hv => ?_) h1
      refine ifFlat?_okv (fun v hv => ?_) hv
      exact ifFlat?_okv (fun v hv => okv_some hv) hv
    · rename_i b hx
      rw [hx] at h1 ⊢
      refine ifFlat?_okv (fun v hv => ?_) h1
      refine ifFlat?_okv (fun v hv => ?_) hv
      exact ifFlat?_okv (fun v hv => okv_some hv) hv
    · rename_i hx1 hx2
      have : lflat C.P ρ ⟨dst, .slice t x lo hi mx, ty, pos, after, guard⟩ H = some (.value v, H) := by
        refine kflat_ok h1 ?_ rfl _
        simp only [Op.operands]
        cases lo <;> cases hi <;> cases mx <;> rfl
      split
      · exact absurd ‹_› (hx1 _ _ _)
      · exact absurd ‹_› (hx2 _)
      · exact this
  | extract t i => obtain ⟨v, h1, h2⟩ := ko_ok h; exact ⟨v, okv_some h1, h2⟩
  | makeInterface t x => obtain ⟨v, h1, h2⟩ := ko_ok h; exact ⟨v, okv_some h1, h2⟩
  | makeFunc fn first captured =>
    simp only at h
    split at h
    · rename_i hc
      exact ⟨_, by simp only [lopFunc, hc], h⟩
    · cases h
  | typeAssert x xt t ok =>
    obtain ⟨v, h1, h2⟩ := ko_ok h
    refine ⟨v, ?_, h2⟩
    unfold kassert at h1
    simp only [lopAssert]
    split at h1
    · rename_i hx; rw [hx] at h1 ⊢; exact okv_some h1
    · rename_i hx
      split
      · exact absurd ‹_› (hx _ _)
      · exact kflat_ok h1 rfl rfl _
  | lookup t x k ok => obtain ⟨v, h1, h2⟩ := ko_ok h; exact ⟨v, ifFlat_okv h1, h2⟩
  | entry x => obtain ⟨v, h1, h2⟩ := ko_ok h; exact ⟨v, okv_some h1, h2⟩
  | binOp op t x y u => obtain ⟨v, h1, h2⟩ := ko_ok h; exact ⟨v, kbin_ok hC rfl h1, h2⟩
  | convert src dst' x =>
    obtain ⟨v, h1, h2⟩ := ko_ok h
    refine ⟨v, ?_, h2⟩
    unfold kconv at h1
    simp only [lopConvert]
    split at h1
    · rename_i k n hx
      rw [hx]
      simp only
      split at h1
      · rename_i d k' hs hd; rw [hs, hd]; injection h1 with h1; subst h1; rfl
      · rename_i hn
        split
        · exact absurd ‹_› (fun e => hn _ _ ‹_› e)
        · exact kflat_ok h1 rfl rfl _
    · rename_i a n c hx
      rw [hx]
      simp only
      split at h1
      · rename_i hb
        split at h1
        · rename_i e c1 c2 c3 hd ha
          rw [hd, ha]
          simp only
          split at h1
          · rename_i he; simp only [hb, he]; injection h1 with h1; subst h1; rw [hx]
          · cases h1
        · cases h1
      · rename_i hb; simp only [hb]; rw [hx] at h1; exact okv_some h1
    · rename_i n c hx; rw [hx] at h1 ⊢; exact okv_some h1
    · rename_i hx1 hx2 hx3
      split
      · exact absurd ‹_› (hx1 _ _)
      · exact absurd ‹_› (hx2 _ _ _)
      · exact absurd ‹_› (hx3 _ _)
      · exact kflat_ok h1 rfl rfl _
  | unOp op t x =>
    obtain ⟨v, h1, h2⟩ := ko_ok h
    refine ⟨v, ?_, h2⟩
    unfold kun at h1
    simp only [lopUn]
    split at h1
    · rename_i b hx; rw [hx]; injection h1 with h1; subst h1; rfl
    · rename_i hx
      split
      · exact absurd ‹_› (hx _ rfl)
      · exact kflat_ok h1 rfl rfl _
  | call c =>
    simp only at h
    split at h
    · rename_i b hc
      simp only [lopCall, hc]
      split at h
      · cases h
      · cases h
      · cases h
      · cases h
      · rename_i x t hx ht
        obtain ⟨v, h1, h2⟩ := ko_ok h
        refine ⟨v, ?_, h2⟩
        simp only [lbuiltin, hx, ht]
        exact klen_ok h1
      · rename_i vs ts n1 n2 n3 n4 n5
        obtain ⟨v, h1, h2⟩ := ko_ok h
        refine ⟨v, ?_, h2⟩
        have hf := kflatCall_ok (ρ := ρ) (H := H) hρ (o := ⟨dst, .call c, ty, pos, after, guard⟩) rfl hc h1
        unfold lbuiltin
        split
        · exact absurd rfl n1
        · rename_i x t hx ht; exact absurd ht (n5 _ _ rfl hx)
        · exact absurd rfl n2
        · exact absurd rfl n3
        · exact absurd rfl n4
        · exact hf
    · cases h
  | _ => cases h
end
end Go.Proofs.YtiedaccgagnofaaGreat
