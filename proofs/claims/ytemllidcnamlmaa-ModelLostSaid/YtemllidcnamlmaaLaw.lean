/- What the model's steps keep: the plain law. -/
import Derived.Test.YtemllidcnamlmaaPure
namespace Go.Proofs.Ytemllidcnamlmaa
namespace MS

/-- m' may come behind m. -/
structure Step (m m' : MS) : Prop where
  base : m'.base = m.base
  first : m.first ≤ m'.first
  dur : m.durable ≤ m'.durable
  next : m.next ≤ m'.next
  lim : m'.limit ≤ m.limit
  failed : m.failed = true → m'.failed = true
  closed : m.closed = true → m'.closed = true
  len : m'.recs.length ≤ m.recs.length + 1

theorem Step.refl (m : MS) : Step m m := ⟨rfl, Int.le_refl _, Int.le_refl _, Int.le_refl _, Int.le_refl _, id, id, by omega⟩

def Good (m m' : MS) : Prop := Step m m' ∧ (m.recs.length ≤ 999 → m'.Inv)

theorem good_same {m : MS} (h : m.Inv) : Good m m := ⟨.refl m, fun _ => h⟩
theorem good_fail {m m' : MS} (h : Good m m') : Good m m'.fail :=
  ⟨⟨h.1.base, h.1.first, h.1.dur, h.1.next, h.1.lim, fun _ => rfl, h.1.closed, h.1.len⟩, fun q => let i := h.2 q; ⟨i.base, i.first, i.dur, i.next, i.lim, i.top1, i.top2, i.num, i.few, i.small⟩⟩
theorem good_shut {m m' : MS} (h : Good m m') : Good m m'.shut :=
  ⟨⟨h.1.base, h.1.first, h.1.dur, h.1.next, h.1.lim, h.1.failed, fun _ => rfl, h.1.len⟩, fun q => let i := h.2 q; ⟨i.base, i.first, i.dur, i.next, i.lim, i.top1, i.top2, i.num, i.few, i.small⟩⟩

theorem good_add {m m' : MS} {lsn : Int} {l : List Int} (h : m.Inv) (ha : m.add lsn l = some m') : Good m m' := by
  unfold add at ha
  split at ha
  · rename_i hc
    obtain ⟨h1, h2, h3, h4⟩ := hc
    injection ha with ha
    subst ha
    have e1 := h.base; have e2 := h.first; have e3 := h.dur; have e4 := h.next; have e5 := h.num
    refine ⟨⟨rfl, Int.le_refl _, Int.le_refl _, by simp; omega, Int.le_refl _, id, id, by simp⟩, fun q => ⟨h.base, h.first, h.dur, ?_, h.lim, ?_, h.top2, ?_, ?_, ?_⟩⟩
    · simp; omega
    · simp; omega
    · simp; omega
    · simp; omega
    · intro k hk
      simp at hk
      rcases hk with hk | hk
      · exact h.small k hk
      · subst hk; exact h2
  · cases ha

theorem good_raise {m m' : MS} {n : Int} (h : m.Inv) (hn : n ≤ m.next) (hr : m.raise n = some m') : Good m m' ∧ n ≤ m'.durable ∧ m'.first = m.first := by
  unfold raise at hr
  split at hr
  · rename_i hl
    injection hr with hr
    subst hr
    have e1 := h.dur; have e2 := h.next; have e3 := h.lim
    exact ⟨⟨⟨rfl, Int.le_refl _, by simp; omega, Int.le_refl _, Int.le_refl _, id, id, by simp⟩, fun q => ⟨h.base, h.first, by simp; omega, by simp; omega, by simp; omega, h.top1, h.top2, h.num, h.few, h.small⟩⟩, by simp; omega, rfl⟩
  · cases hr

theorem good_front {m m' : MS} {n : Int} (h : m.Inv) (hn : m.first < n) (hr : m.front n = some m') : Good m m' := by
  unfold front at hr
  split at hr
  · rename_i hl
    cases hk : m.raise n with
    | none => rw [hk] at hr; cases hr
    | some k =>
      rw [hk] at hr
      injection hr with hr
      obtain ⟨⟨s, i⟩, hd, hf⟩ := good_raise h hl hk
      subst hr
      have e2 := h.first
      have eb := s.base
      exact ⟨⟨s.base, by simp; omega, s.dur, s.next, s.lim, s.failed, s.closed, s.len⟩, fun q => by
        have i := i q
        have := i.base; have := i.first
        exact ⟨i.base, by simp; omega, by simp; omega, i.next, i.lim, i.top1, i.top2, i.num, i.few, i.small⟩⟩
  · cases hr

theorem good_lower {m k m' : MS} {n : Int} (hg : Good m k) (hr : k.lower n = some m') : Good m m' := by
  unfold lower at hr
  split at hr
  · rename_i hl
    injection hr with hr
    subst hr
    obtain ⟨s, i⟩ := hg
    have := s.lim
    exact ⟨⟨s.base, s.first, s.dur, s.next, by simp; omega, s.failed, s.closed, s.len⟩, fun q => by
      have i := i q
      have := i.top2
      exact ⟨i.base, i.first, i.dur, i.next, by simp; omega, i.top1, by simp; omega, i.num, i.few, i.small⟩⟩
  · cases hr

theorem good_read {m m' : MS} {c : CM} {r : RM} (h : m.Inv) (hr : m.read c r = some m') : Good m m' := by
  unfold read at hr
  repeat' split at hr
  all_goals first
    | (cases hr; done)
    | (injection hr with hr; subst hr; first | exact good_same h | exact good_fail (good_same h))
    | (rename_i hc; exact (good_raise h (by omega) hr).1)

theorem good_append {m m' : MS} {c : CM} {r : RM} (h : m.Inv) (hr : m.append c r = some m') : Good m m' := by
  unfold append at hr
  repeat' split at hr
  all_goals first
    | (cases hr; done)
    | (injection hr with hr; subst hr; first | exact good_same h | exact good_fail (good_same h))
    | exact good_add h hr
    | (cases hk : m.add r.lsn c.data with
       | none => rw [hk] at hr; cases hr
       | some k => rw [hk] at hr; exact good_lower (good_add h hk) hr)

theorem good_sync {m m' : MS} {r : RM} (h : m.Inv) (hr : m.sync r = some m') : Good m m' := by
  unfold sync at hr
  repeat' split at hr
  all_goals first
    | (cases hr; done)
    | (injection hr with hr; subst hr; first | exact good_same h | exact good_fail (good_same h))

theorem good_close {m m' : MS} {r : RM} (h : m.Inv) (hr : m.close r = some m') : Good m m' := by
  unfold close at hr
  cases hk : m.sync r with
  | none => rw [hk] at hr; cases hr
  | some k => rw [hk] at hr; injection hr with hr; subst hr; exact good_shut (good_sync h hk)

theorem good_truncate {m m' : MS} {c : CM} {r : RM} (h : m.Inv) (hr : m.truncate c r = some m') : Good m m' := by
  unfold truncate at hr
  repeat' split at hr
  all_goals first
    | (cases hr; done)
    | (injection hr with hr; subst hr; first | exact good_same h | exact good_fail (good_same h))
    | (rename_i hc; exact good_front h (by omega) hr)
    | (cases hk : m.front c.lsn with
       | none => rw [hk] at hr; cases hr
       | some k => rw [hk] at hr; injection hr with hr; subst hr; rename_i hc; exact good_fail (good_front h (by omega) hk))

theorem good_answer {m m' : MS} {c : CM} {r : RM} (h : m.Inv) (hr : m.answer c r = some m') : Good m m' := by
  unfold answer at hr
  repeat' split at hr
  all_goals first
    | (cases hr; done)
    | exact good_read h hr
    | exact good_append h hr
    | exact good_truncate h hr
    | exact good_sync h hr
    | exact good_close h hr

theorem good_apply {m m' : MS} {c : CM} {r : RM} (h : m.Inv) (hr : m.apply c r = some m') : Good m m' := by
  unfold apply apply1 at hr
  repeat' split at hr
  all_goals first
    | (cases hr; done)
    | (injection hr with hr; subst hr; exact good_same h)
    | exact good_answer h hr

theorem good_half {m m' : MS} {c : CM} (h : m.Inv) (hr : m.half c = some m') : Good m m' := by
  unfold half half1 at hr
  repeat' split at hr
  all_goals first
    | (cases hr; done)
    | (injection hr with hr; subst hr; exact good_shut (good_same h))
    | exact good_add h hr
    | exact good_truncate h hr
end MS
end Go.Proofs.Ytemllidcnamlmaa
