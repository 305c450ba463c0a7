/- The walks of sync, close, append, truncate, answer. -/
import Derived.Test.YtemllidcnamlmaaWd
namespace Go.Proofs.Ytemllidcnamlmaa
open Go.RowKit

theorem Post.ends {B s : Nat} {rv : Value} {w : World} {o : Option MS} {e : Ending} {w' : World} (hp : Post B s rv w o e w') : e = noPanic ∨ e = retUnit := by
  cases h : o with
  | none => exact .inl (hp.stops h)
  | some m => exact .inr (hp.goes m h).1
theorem Post.ret {B s : Nat} {rv : Value} {w : World} {o : Option MS} {w' : World} (hp : Post B s rv w o retUnit w') :
    ∃ m', o = some m' ∧ ∃ rv' vs', St w' B s m' rv' vs' ∧ (∀ k, rv'.ownBlock = some k → some k = rv.ownBlock ∨ w.heap.size ≤ k) := by
  cases h : o with
  | none => have := hp.stops h; cases this
  | some m => exact ⟨m, rfl, (hp.goes m h).2⟩
theorem Post.pan {B s : Nat} {rv : Value} {w : World} {o : Option MS} {w' : World} (hp : Post B s rv w o noPanic w') : o = Option.none := by
  cases h : o with
  | none => rfl
  | some m => have := (hp.goes m h).1; cases this

/-- w2 is w with a result in a new block. -/
structure Boxed1 (w w2 : World) (B s : Nat) (m : MS) (rv : Value) (vs : List Value) (b : Nat) (r1 r2 r3 : Value) : Prop where
  st : St w2 B s m rv vs
  chg : Chg w w2 s rv
  q : Blk w2 b 34 #[r1, r2, r3]
theorem boxed1 {w : World} {B s : Nat} {m : MS} {rv : Value} {vs : List Value} (h : St w B s m rv vs) (r1 r2 r3 : Value) :
    Boxed1 w (w.alloc (.cells #[r1, r2, r3] 34)) B s m rv vs w.heap.size r1 r2 r3 :=
  ⟨h.alloc _, (Chg.refl _ _ _).alloc _, Blk.new _ _ _⟩

/-- A block of another type than the state's and its rows' is left alone. -/
theorem Chg.blk {w w' : World} {B s : Nat} {m : MS} {rv : Value} {vs : List Value} (hc : Chg w w' s rv) (h : St w B s m rv vs) {a : Nat} {t : TypeId} {cs : Array Value} (hb : Blk w a t cs) (h1 : t ≠ 48) (h2 : t ≠ 30) : Blk w' a t cs := by
  have ha : a ≠ s := Blk.ne_ hb h.blk h1
  have hr : some a ≠ rv.ownBlock := fun k => own_blk_ne h.row hb (fun q => h2 q.symm) k.symm
  exact (hc.block a hb.lt ha hr).trans hb

set_option maxRecDepth 100000 in
set_option maxHeartbeats 1000000 in
theorem sync0 (w : World) (B s : Nat) (m : MS) (rv : Value) (vs : List Value) (rl err : Int) (A' : Option Addr) (n' k' : Nat) (h : St w B s m rv vs) (e1 : (rl == 0) = false) :
    Calls Try.prog 25 #[.pointer (some ⟨s, 0, none⟩), .agg #[.int .i64 err, .int .i64 rl, .slice A' n' k']] w (Post B s rv w none) := by
  have hb := boxed1 h (.int .i64 err) (.int .i64 rl) (.slice A' n' k')
  clear h
  go_enter Try.func25, Try.ntmps25
  go_upto_region 1 with (fail)
  generalize w.alloc _ = w2 at hb ⊢
  generalize w.heap.size = b at hb ⊢
  have q0 := hb.q.cell 0; have q1 := hb.q.cell 1; have q2 := hb.q.cell 2
  have s0 := hb.st.blk.cell 0; have s1 := hb.st.blk.cell 1; have s2 := hb.st.blk.cell 2; have s3 := hb.st.blk.cell 3; have s4 := hb.st.blk.cell 4; have s5 := hb.st.blk.cell 5
  have s6 := hb.st.blk.cell 6; have f6 := hb.st.blk.frozen 6; have s7 := hb.st.blk.cell 7
  simp [cells] at q0 q1 q2 s0 s1 s2 s3 s4 s5 s6 s7
  have HB := hide hb
  clear hb
  go_wp2_with (first | (go_at_call 14; first | (refine (may_true _).mono ?_; rintro e w1 ⟨rfl, rfl⟩) | (refine (may_false _).mono ?_; rintro e w1 ⟨rfl, rfl⟩)))
  exact ⟨rfl, .none HB.out.chg⟩

set_option maxRecDepth 100000 in
set_option maxHeartbeats 1000000 in
theorem sync1 (w : World) (B s : Nat) (m : MS) (rv : Value) (vs : List Value) (rl err : Int) (A' : Option Addr) (n' k' : Nat) (h : St w B s m rv vs) (e0 : err = 0) (e1 : rl = 0) (sn : m.sane) (e2 : m.next ≤ m.limit) :
    Calls Try.prog 25 #[.pointer (some ⟨s, 0, none⟩), .agg #[.int .i64 err, .int .i64 rl, .slice A' n' k']] w (Post B s rv w (some m)) := by
  have hb := boxed1 h (.int .i64 err) (.int .i64 rl) (.slice A' n' k')
  clear h
  subst e0 e1
  go_enter Try.func25, Try.ntmps25
  go_upto_region 1 with (fail)
  generalize w.alloc _ = w2 at hb ⊢
  generalize w.heap.size = b at hb ⊢
  have q0 := hb.q.cell 0; have q1 := hb.q.cell 1; have q2 := hb.q.cell 2
  have s0 := hb.st.blk.cell 0; have s1 := hb.st.blk.cell 1; have s2 := hb.st.blk.cell 2; have s3 := hb.st.blk.cell 3; have s4 := hb.st.blk.cell 4; have s5 := hb.st.blk.cell 5
  have s6 := hb.st.blk.cell 6; have f6 := hb.st.blk.frozen 6; have s7 := hb.st.blk.cell 7
  simp [cells] at q0 q1 q2 s0 s1 s2 s3 s4 s5 s6 s7
  rw [sn.1] at s6
  rw [sn.2] at s7
  have SN := hide sn
  clear sn
  have HB := hide hb
  clear hb
  go_wp2_with (first | (go_at_call 21; refine (sane_true _ _ s6 s7).mono ?_; rintro e w1 ⟨rfl, rfl⟩) | (go_at_call 14; first | (refine (may_true _).mono ?_; rintro e w1 ⟨rfl, rfl⟩) | (refine (may_false _).mono ?_; rintro e w1 ⟨rfl, rfl⟩)))
  refine WS.start 11 (by kernel_rfl) (by kernel_rfl) ?_
  simp only [List.take_succ_cons, List.take_zero, List.drop_succ_cons, List.drop_zero]
  iterate 11 (refine WS.step (fun K hK => ?_); go_simp; refine hK _ ?_; clear hK K)
  refine WS.nil ?_
  go_wp2_with (first | (go_at_call 14; first | (refine (may_true _).mono ?_; rintro e w1 ⟨rfl, rfl⟩) | (refine (may_false _).mono ?_; rintro e w1 ⟨rfl, rfl⟩)))
  go_end0
  exact .same HB.out.chg.drew HB.out.st.drew

set_option maxRecDepth 100000 in
set_option maxHeartbeats 1000000 in
theorem sync2 (w : World) (B s : Nat) (m : MS) (rv : Value) (vs : List Value) (rl err : Int) (A' : Option Addr) (n' k' : Nat) (h : St w B s m rv vs) (e0 : err = 0) (e1 : rl = 0) (sn : m.sane) (e2 : decide (m.next ≤ m.limit) = false) :
    Calls Try.prog 25 #[.pointer (some ⟨s, 0, none⟩), .agg #[.int .i64 err, .int .i64 rl, .slice A' n' k']] w (Post B s rv w none) := by
  have hb := boxed1 h (.int .i64 err) (.int .i64 rl) (.slice A' n' k')
  clear h
  subst e0 e1
  go_enter Try.func25, Try.ntmps25
  go_upto_region 1 with (fail)
  generalize w.alloc _ = w2 at hb ⊢
  generalize w.heap.size = b at hb ⊢
  have q0 := hb.q.cell 0; have q1 := hb.q.cell 1; have q2 := hb.q.cell 2
  have s0 := hb.st.blk.cell 0; have s1 := hb.st.blk.cell 1; have s2 := hb.st.blk.cell 2; have s3 := hb.st.blk.cell 3; have s4 := hb.st.blk.cell 4; have s5 := hb.st.blk.cell 5
  have s6 := hb.st.blk.cell 6; have f6 := hb.st.blk.frozen 6; have s7 := hb.st.blk.cell 7
  simp [cells] at q0 q1 q2 s0 s1 s2 s3 s4 s5 s6 s7
  rw [sn.1] at s6
  rw [sn.2] at s7
  have SN := hide sn
  clear sn
  have HB := hide hb
  clear hb
  go_wp2_with (first | (go_at_call 21; refine (sane_true _ _ s6 s7).mono ?_; rintro e w1 ⟨rfl, rfl⟩) | (go_at_call 14; first | (refine (may_true _).mono ?_; rintro e w1 ⟨rfl, rfl⟩) | (refine (may_false _).mono ?_; rintro e w1 ⟨rfl, rfl⟩)))
  refine WS.start 11 (by kernel_rfl) (by kernel_rfl) ?_
  simp only [List.take_succ_cons, List.take_zero, List.drop_succ_cons, List.drop_zero]
  iterate 11 (refine WS.step (fun K hK => ?_); go_simp; refine hK _ ?_; clear hK K)
  refine WS.nil ?_
  go_wp2_with (first | (go_at_call 14; first | (refine (may_true _).mono ?_; rintro e w1 ⟨rfl, rfl⟩) | (refine (may_false _).mono ?_; rintro e w1 ⟨rfl, rfl⟩)))
  exact ⟨rfl, .none HB.out.chg.drew⟩

set_option maxRecDepth 100000 in
set_option maxHeartbeats 1000000 in
theorem sync3 (w : World) (B s : Nat) (m : MS) (rv : Value) (vs : List Value) (rl err : Int) (A' : Option Addr) (n' k' : Nat) (h : St w B s m rv vs) (e0 : err = 0) (e1 : rl = 0) (sn : ¬ m.sane) :
    Calls Try.prog 25 #[.pointer (some ⟨s, 0, none⟩), .agg #[.int .i64 err, .int .i64 rl, .slice A' n' k']] w (Post B s rv w none) := by
  have hb := boxed1 h (.int .i64 err) (.int .i64 rl) (.slice A' n' k')
  clear h
  subst e0 e1
  go_enter Try.func25, Try.ntmps25
  go_upto_region 1 with (fail)
  generalize w.alloc _ = w2 at hb ⊢
  generalize w.heap.size = b at hb ⊢
  have q0 := hb.q.cell 0; have q1 := hb.q.cell 1; have q2 := hb.q.cell 2
  have s0 := hb.st.blk.cell 0; have s1 := hb.st.blk.cell 1; have s2 := hb.st.blk.cell 2; have s3 := hb.st.blk.cell 3; have s4 := hb.st.blk.cell 4; have s5 := hb.st.blk.cell 5
  have s6 := hb.st.blk.cell 6; have f6 := hb.st.blk.frozen 6; have s7 := hb.st.blk.cell 7
  simp [cells] at q0 q1 q2 s0 s1 s2 s3 s4 s5 s6 s7
  have SN := hide sn
  clear sn
  have HB := hide hb
  clear hb
  go_wp2_with (first | (go_at_call 21; refine (sane_false _ _ _ _ s6 s7 SN.out).mono ?_; rintro e w1 ⟨rfl, rfl⟩) | (go_at_call 14; first | (refine (may_true _).mono ?_; rintro e w1 ⟨rfl, rfl⟩) | (refine (may_false _).mono ?_; rintro e w1 ⟨rfl, rfl⟩)))
  exact ⟨rfl, .none HB.out.chg⟩

set_option maxRecDepth 100000 in
set_option maxHeartbeats 1000000 in
theorem sync4 (w : World) (B s : Nat) (m : MS) (rv : Value) (vs : List Value) (rl err : Int) (A' : Option Addr) (n' k' : Nat) (h : St w B s m rv vs) (e0 : err = 40) (e1 : rl = 0) :
    Calls Try.prog 25 #[.pointer (some ⟨s, 0, none⟩), .agg #[.int .i64 err, .int .i64 rl, .slice A' n' k']] w (Post B s rv w (some m.fail)) := by
  have hb := boxed1 h (.int .i64 err) (.int .i64 rl) (.slice A' n' k')
  clear h
  subst e0 e1
  go_enter Try.func25, Try.ntmps25
  go_upto_region 1 with (fail)
  generalize w.alloc _ = w2 at hb ⊢
  generalize w.heap.size = b at hb ⊢
  have q0 := hb.q.cell 0; have q1 := hb.q.cell 1; have q2 := hb.q.cell 2
  have s0 := hb.st.blk.cell 0; have s1 := hb.st.blk.cell 1; have s2 := hb.st.blk.cell 2; have s3 := hb.st.blk.cell 3; have s4 := hb.st.blk.cell 4; have s5 := hb.st.blk.cell 5
  have s6 := hb.st.blk.cell 6; have f6 := hb.st.blk.frozen 6; have s7 := hb.st.blk.cell 7
  simp [cells] at q0 q1 q2 s0 s1 s2 s3 s4 s5 s6 s7
  have HB := hide hb
  clear hb
  go_wp2_with (first | (go_at_call 14; first | (refine (may_true _).mono ?_; rintro e w1 ⟨rfl, rfl⟩) | (refine (may_false _).mono ?_; rintro e w1 ⟨rfl, rfl⟩)))
  go_end0
  exact .same (HB.out.chg.setCell (p := ⟨s, 6, none⟩) (.inl rfl) _) (HB.out.st.set 6 _ (by simp [cells, MS.fail]) rfl)

set_option maxRecDepth 100000 in
set_option maxHeartbeats 1000000 in
theorem sync5 (w : World) (B s : Nat) (m : MS) (rv : Value) (vs : List Value) (rl err : Int) (A' : Option Addr) (n' k' : Nat) (h : St w B s m rv vs) (e0 : (err == 0) = false) (e40 : (err == 40) = false) (e1 : rl = 0) :
    Calls Try.prog 25 #[.pointer (some ⟨s, 0, none⟩), .agg #[.int .i64 err, .int .i64 rl, .slice A' n' k']] w (Post B s rv w none) := by
  have hb := boxed1 h (.int .i64 err) (.int .i64 rl) (.slice A' n' k')
  clear h
  subst e1
  go_enter Try.func25, Try.ntmps25
  go_upto_region 1 with (fail)
  generalize w.alloc _ = w2 at hb ⊢
  generalize w.heap.size = b at hb ⊢
  have q0 := hb.q.cell 0; have q1 := hb.q.cell 1; have q2 := hb.q.cell 2
  have s0 := hb.st.blk.cell 0; have s1 := hb.st.blk.cell 1; have s2 := hb.st.blk.cell 2; have s3 := hb.st.blk.cell 3; have s4 := hb.st.blk.cell 4; have s5 := hb.st.blk.cell 5
  have s6 := hb.st.blk.cell 6; have f6 := hb.st.blk.frozen 6; have s7 := hb.st.blk.cell 7
  simp [cells] at q0 q1 q2 s0 s1 s2 s3 s4 s5 s6 s7
  have HB := hide hb
  clear hb
  go_wp2_with (first | (go_at_call 14; first | (refine (may_true _).mono ?_; rintro e w1 ⟨rfl, rfl⟩) | (refine (may_false _).mono ?_; rintro e w1 ⟨rfl, rfl⟩)))
  exact ⟨rfl, .none HB.out.chg⟩

theorem sync_any (w : World) (B s : Nat) (m : MS) (rv : Value) (vs : List Value) (r : RM) (A' : Option Addr) (n' k' : Nat) (h : St w B s m rv vs) :
    Calls Try.prog 25 #[.pointer (some ⟨s, 0, none⟩), resV r A' n' k'] w (Post B s rv w (m.sync r)) := by
  obtain ⟨err, rl, l⟩ := r
  unfold resV MS.sync
  simp only
  by_cases e1 : rl = 0
  · rw [if_neg (fun q => q e1)]
    by_cases e0 : err = 0
    · rw [if_pos e0]
      by_cases sn : m.sane
      · by_cases e2 : m.next ≤ m.limit
        · rw [if_pos ⟨sn, e2⟩]; exact sync1 w B s m rv vs rl err A' n' k' h e0 e1 sn e2
        · rw [if_neg (fun q => e2 q.2)]; exact sync2 w B s m rv vs rl err A' n' k' h e0 e1 sn (by simpa using e2)
      · rw [if_neg (fun q => sn q.1)]; exact sync3 w B s m rv vs rl err A' n' k' h e0 e1 sn
    · rw [if_neg e0]
      by_cases e4 : err = 40
      · rw [if_pos e4]; exact sync4 w B s m rv vs rl err A' n' k' h e4 e1
      · rw [if_neg e4]; exact sync5 w B s m rv vs rl err A' n' k' h (by simpa using e0) (by simpa using e4) e1
  · rw [if_pos e1]; exact sync0 w B s m rv vs rl err A' n' k' h (by simpa using e1)

set_option maxRecDepth 100000 in
set_option maxHeartbeats 1000000 in
theorem close_any0 (w : World) (B s : Nat) (m : MS) (rv : Value) (vs : List Value) (l : List Int) (rl err : Int) (A' : Option Addr) (n' k' : Nat) (h : St w B s m rv vs)  :
    Calls Try.prog 26 #[.pointer (some ⟨s, 0, none⟩), .agg #[.int .i64 err, .int .i64 rl, .slice A' n' k']] w (Post B s rv w (m.close ⟨err, rl, l⟩)) := by
  have hb := boxed1 h (.int .i64 err) (.int .i64 rl) (.slice A' n' k')
  clear h
  go_enter Try.func26, Try.ntmps26
  go_upto_region 1 with (fail)
  generalize w.alloc _ = w2 at hb ⊢
  generalize w.heap.size = b at hb ⊢
  have q0 := hb.q.cell 0; have q1 := hb.q.cell 1; have q2 := hb.q.cell 2
  have s0 := hb.st.blk.cell 0; have s1 := hb.st.blk.cell 1; have s2 := hb.st.blk.cell 2; have s3 := hb.st.blk.cell 3; have s4 := hb.st.blk.cell 4; have s5 := hb.st.blk.cell 5
  have s6 := hb.st.blk.cell 6; have f6 := hb.st.blk.frozen 6; have s7 := hb.st.blk.cell 7
  simp [cells] at q0 q1 q2 s0 s1 s2 s3 s4 s5 s6 s7
  have HB := hide hb
  clear hb
  go_wp2_with (first | (go_at_call 25; refine (sync_any _ B s m rv vs ⟨err, rl, l⟩ A' n' k' HB.out.st).mono ?_; rintro e w1 hP; have hE := hP.ends; rcases hE with rfl | rfl <;> first | (obtain ⟨m1, hm1, rv1, vs1, h1, hr1⟩ := hP.ret; have d7 := h1.blk.cell 7; have f7 := h1.blk.frozen 7; simp [cells] at d7; have H1 := hide h1; have HR := hide hr1; have HM := hide hm1; have HP := hide hP; clear h1 hr1 hm1 hP) | (have HP := hide hP; clear hP)))
  · have hn : m.close ⟨err, rl, l⟩ = none := by unfold MS.close; rw [HP.out.pan]; rfl
    rw [hn]
    exact ⟨rfl, .none (HB.out.chg.trans HP.out.chg (fun _ hk => .inl hk.symm))⟩
  · have hn : m.close ⟨err, rl, l⟩ = some m1.shut := by unfold MS.close; rw [HM.out]; rfl
    rw [hn]
    go_end0
    exact .go ((HB.out.chg.trans HP.out.chg (fun _ hk => .inl hk.symm)).setCell (p := ⟨s, 7, none⟩) (.inl rfl) _) rfl rfl (H1.out.set 7 _ (by simp [cells, MS.shut]) rfl) (fun k hk => (HR.out k hk).imp id (fun h => Nat.le_trans HB.out.chg.size h))

theorem close_any (w : World) (B s : Nat) (m : MS) (rv : Value) (vs : List Value) (r : RM) (A' : Option Addr) (n' k' : Nat) (h : St w B s m rv vs) :
    Calls Try.prog 26 #[.pointer (some ⟨s, 0, none⟩), resV r A' n' k'] w (Post B s rv w (m.close r)) :=
  close_any0 w B s m rv vs r.data r.lsn r.err A' n' k' h
end Go.Proofs.Ytemllidcnamlmaa
