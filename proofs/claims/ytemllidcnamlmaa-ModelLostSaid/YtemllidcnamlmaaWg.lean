/- The walks of truncate, answer. -/
import Derived.Test.YtemllidcnamlmaaWf
namespace Go.Proofs.Ytemllidcnamlmaa
open Go.RowKit

set_option maxRecDepth 100000 in
set_option maxHeartbeats 1000000 in
theorem tr1 (w : World) (B s : Nat) (m : MS) (rv : Value) (vs : List Value) (kind lsn rl err : Int) (A : Option Addr) (n k : Nat) (A' : Option Addr) (n' k' : Nat) (h : St w B s m rv vs) (e0 : err = 40) (e1 : rl = 0) :
    Calls Try.prog 15 #[.pointer (some ⟨s, 0, none⟩), .agg #[.int .i64 kind, .int .i64 lsn, .slice A n k], .agg #[.int .i64 err, .int .i64 rl, .slice A' n' k']] w (Post B s rv w (some m.fail)) := by
  have hb := boxed h (.int .i64 kind) (.int .i64 lsn) (.slice A n k) (.int .i64 err) (.int .i64 rl) (.slice A' n' k')
  clear h
  subst e0 e1
  go_enter Try.func15, Try.ntmps15
  go_upto_region 1 with (fail)
  generalize (w.alloc _).alloc _ = w2 at hb ⊢
  generalize w.heap.size = a at hb ⊢
  generalize a + 1 = b at hb ⊢
  have p0 := hb.p.cell 0; have p1 := hb.p.cell 1; have p2 := hb.p.cell 2; have q0 := hb.q.cell 0; have q1 := hb.q.cell 1; have q2 := hb.q.cell 2
  have s0 := hb.st.blk.cell 0; have s1 := hb.st.blk.cell 1; have s2 := hb.st.blk.cell 2; have s3 := hb.st.blk.cell 3; have s4 := hb.st.blk.cell 4; have s5 := hb.st.blk.cell 5
  have s6 := hb.st.blk.cell 6; have f6 := hb.st.blk.frozen 6; have s7 := hb.st.blk.cell 7
  simp [cells] at p0 p1 p2 q0 q1 q2 s0 s1 s2 s3 s4 s5 s6 s7
  have HB := hide hb
  clear hb
  go_wp2_with (first | (go_at_call 14; first | (refine (may_true _).mono ?_; rintro e w1 ⟨rfl, rfl⟩) | (refine (may_false _).mono ?_; rintro e w1 ⟨rfl, rfl⟩)))
  go_end0
  exact .same (HB.out.chg.setCell (p := ⟨s, 6, none⟩) (.inl rfl) _) (HB.out.st.set 6 _ (by simp [cells, MS.fail]) rfl)

set_option maxRecDepth 100000 in
set_option maxHeartbeats 1000000 in
theorem tr2 (w : World) (B s : Nat) (m : MS) (rv : Value) (vs : List Value) (kind lsn rl err : Int) (A : Option Addr) (n k : Nat) (A' : Option Addr) (n' k' : Nat) (h : St w B s m rv vs) (e0 : err = 40)(e1 : (rl == 0) = false) (e2 : (rl == lsn) = false) :
    Calls Try.prog 15 #[.pointer (some ⟨s, 0, none⟩), .agg #[.int .i64 kind, .int .i64 lsn, .slice A n k], .agg #[.int .i64 err, .int .i64 rl, .slice A' n' k']] w (Post B s rv w none) := by
  have hb := boxed h (.int .i64 kind) (.int .i64 lsn) (.slice A n k) (.int .i64 err) (.int .i64 rl) (.slice A' n' k')
  clear h
  subst e0
  go_enter Try.func15, Try.ntmps15
  go_upto_region 1 with (fail)
  generalize (w.alloc _).alloc _ = w2 at hb ⊢
  generalize w.heap.size = a at hb ⊢
  generalize a + 1 = b at hb ⊢
  have p0 := hb.p.cell 0; have p1 := hb.p.cell 1; have p2 := hb.p.cell 2; have q0 := hb.q.cell 0; have q1 := hb.q.cell 1; have q2 := hb.q.cell 2
  have s0 := hb.st.blk.cell 0; have s1 := hb.st.blk.cell 1; have s2 := hb.st.blk.cell 2; have s3 := hb.st.blk.cell 3; have s4 := hb.st.blk.cell 4; have s5 := hb.st.blk.cell 5
  have s6 := hb.st.blk.cell 6; have f6 := hb.st.blk.frozen 6; have s7 := hb.st.blk.cell 7
  simp [cells] at p0 p1 p2 q0 q1 q2 s0 s1 s2 s3 s4 s5 s6 s7
  have HB := hide hb
  clear hb
  go_wp2_with (first | (go_at_call 14; first | (refine (may_true _).mono ?_; rintro e w1 ⟨rfl, rfl⟩) | (refine (may_false _).mono ?_; rintro e w1 ⟨rfl, rfl⟩)))
  exact ⟨rfl, .none HB.out.chg⟩

set_option maxRecDepth 100000 in
set_option maxHeartbeats 1000000 in
theorem tr3 (w : World) (B s : Nat) (m : MS) (rv : Value) (vs : List Value) (kind lsn rl err : Int) (A : Option Addr) (n k : Nat) (A' : Option Addr) (n' k' : Nat) (h : St w B s m rv vs) (e0 : err = 40)(e1 : (rl == 0) = false) (e2 : rl = lsn) (e3 : decide (m.first < lsn) = false) :
    Calls Try.prog 15 #[.pointer (some ⟨s, 0, none⟩), .agg #[.int .i64 kind, .int .i64 lsn, .slice A n k], .agg #[.int .i64 err, .int .i64 rl, .slice A' n' k']] w (Post B s rv w none) := by
  have hb := boxed h (.int .i64 kind) (.int .i64 lsn) (.slice A n k) (.int .i64 err) (.int .i64 rl) (.slice A' n' k')
  clear h
  subst e0 e2
  go_enter Try.func15, Try.ntmps15
  go_upto_region 1 with (fail)
  generalize (w.alloc _).alloc _ = w2 at hb ⊢
  generalize w.heap.size = a at hb ⊢
  generalize a + 1 = b at hb ⊢
  have p0 := hb.p.cell 0; have p1 := hb.p.cell 1; have p2 := hb.p.cell 2; have q0 := hb.q.cell 0; have q1 := hb.q.cell 1; have q2 := hb.q.cell 2
  have s0 := hb.st.blk.cell 0; have s1 := hb.st.blk.cell 1; have s2 := hb.st.blk.cell 2; have s3 := hb.st.blk.cell 3; have s4 := hb.st.blk.cell 4; have s5 := hb.st.blk.cell 5
  have s6 := hb.st.blk.cell 6; have f6 := hb.st.blk.frozen 6; have s7 := hb.st.blk.cell 7
  simp [cells] at p0 p1 p2 q0 q1 q2 s0 s1 s2 s3 s4 s5 s6 s7
  have HB := hide hb
  clear hb
  go_wp2_with (first | (go_at_call 14; first | (refine (may_true _).mono ?_; rintro e w1 ⟨rfl, rfl⟩) | (refine (may_false _).mono ?_; rintro e w1 ⟨rfl, rfl⟩)))
  exact ⟨rfl, .none HB.out.chg⟩

set_option maxRecDepth 100000 in
set_option maxHeartbeats 1000000 in
theorem tr4 (w : World) (B s : Nat) (m : MS) (rv : Value) (vs : List Value) (kind lsn rl err : Int) (A : Option Addr) (n k : Nat) (A' : Option Addr) (n' k' : Nat) (h : St w B s m rv vs) (e0 : err = 40)(e1 : (rl == 0) = false) (e2 : rl = lsn) (e3 : m.first < lsn) (hA : m.front lsn = none) :
    Calls Try.prog 15 #[.pointer (some ⟨s, 0, none⟩), .agg #[.int .i64 kind, .int .i64 lsn, .slice A n k], .agg #[.int .i64 err, .int .i64 rl, .slice A' n' k']] w (Post B s rv w none) := by
  have HA := hide hA
  clear hA
  have hb := boxed h (.int .i64 kind) (.int .i64 lsn) (.slice A n k) (.int .i64 err) (.int .i64 rl) (.slice A' n' k')
  clear h
  subst e0 e2
  go_enter Try.func15, Try.ntmps15
  go_upto_region 1 with (fail)
  generalize (w.alloc _).alloc _ = w2 at hb ⊢
  generalize w.heap.size = a at hb ⊢
  generalize a + 1 = b at hb ⊢
  have p0 := hb.p.cell 0; have p1 := hb.p.cell 1; have p2 := hb.p.cell 2; have q0 := hb.q.cell 0; have q1 := hb.q.cell 1; have q2 := hb.q.cell 2
  have s0 := hb.st.blk.cell 0; have s1 := hb.st.blk.cell 1; have s2 := hb.st.blk.cell 2; have s3 := hb.st.blk.cell 3; have s4 := hb.st.blk.cell 4; have s5 := hb.st.blk.cell 5
  have s6 := hb.st.blk.cell 6; have f6 := hb.st.blk.frozen 6; have s7 := hb.st.blk.cell 7
  simp [cells] at p0 p1 p2 q0 q1 q2 s0 s1 s2 s3 s4 s5 s6 s7
  have HB := hide hb
  clear hb
  go_wp2_with (first | (go_at_call 14; first | (refine (may_true _).mono ?_; rintro e w1 ⟨rfl, rfl⟩) | (refine (may_false _).mono ?_; rintro e w1 ⟨rfl, rfl⟩)) | (go_at_call 22; refine (front_any _ B s m rv vs _ HB.out.st).mono ?_; rintro e w1 hP; obtain rfl := hP.stops HA.out; have HP := hide hP; clear hP))
  exact ⟨rfl, .none (HB.out.chg.trans HP.out.chg (fun _ hk => .inl hk.symm))⟩

set_option maxRecDepth 100000 in
set_option maxHeartbeats 1000000 in
theorem tr5 (w : World) (B s : Nat) (m : MS) (rv : Value) (vs : List Value) (kind lsn rl err : Int) (A : Option Addr) (n k : Nat) (A' : Option Addr) (n' k' : Nat) (h : St w B s m rv vs) (e0 : err = 40)(e1 : (rl == 0) = false) (e2 : rl = lsn) (e3 : m.first < lsn) (m1 : MS) (hA : m.front lsn = some m1) :
    Calls Try.prog 15 #[.pointer (some ⟨s, 0, none⟩), .agg #[.int .i64 kind, .int .i64 lsn, .slice A n k], .agg #[.int .i64 err, .int .i64 rl, .slice A' n' k']] w (Post B s rv w (some m1.fail)) := by
  have HA := hide hA
  clear hA
  have hb := boxed h (.int .i64 kind) (.int .i64 lsn) (.slice A n k) (.int .i64 err) (.int .i64 rl) (.slice A' n' k')
  clear h
  subst e0 e2
  go_enter Try.func15, Try.ntmps15
  go_upto_region 1 with (fail)
  generalize (w.alloc _).alloc _ = w2 at hb ⊢
  generalize w.heap.size = a at hb ⊢
  generalize a + 1 = b at hb ⊢
  have p0 := hb.p.cell 0; have p1 := hb.p.cell 1; have p2 := hb.p.cell 2; have q0 := hb.q.cell 0; have q1 := hb.q.cell 1; have q2 := hb.q.cell 2
  have s0 := hb.st.blk.cell 0; have s1 := hb.st.blk.cell 1; have s2 := hb.st.blk.cell 2; have s3 := hb.st.blk.cell 3; have s4 := hb.st.blk.cell 4; have s5 := hb.st.blk.cell 5
  have s6 := hb.st.blk.cell 6; have f6 := hb.st.blk.frozen 6; have s7 := hb.st.blk.cell 7
  simp [cells] at p0 p1 p2 q0 q1 q2 s0 s1 s2 s3 s4 s5 s6 s7
  have HB := hide hb
  clear hb
  go_wp2_with (first | (go_at_call 14; first | (refine (may_true _).mono ?_; rintro e w1 ⟨rfl, rfl⟩) | (refine (may_false _).mono ?_; rintro e w1 ⟨rfl, rfl⟩)) | (go_at_call 22; refine (front_any _ B s m rv vs _ HB.out.st).mono ?_; rintro e w1 hP; obtain ⟨rfl, rv1, vs1, h1, hr1⟩ := hP.goes _ HA.out; have u6 := h1.blk.cell 6; have u3 := h1.blk.frozen 6; simp [cells] at u6; have H1 := hide h1; have HR := hide hr1; have HP := hide hP; clear h1 hr1 hP))
  go_end0
  exact .more HB.out.chg HP.out.chg HR.out ((Chg.refl _ _ _).setCell (p := ⟨s, 6, none⟩) (.inl rfl) _) (H1.out.set 6 _ (by simp [cells, MS.fail]) rfl)

set_option maxRecDepth 100000 in
set_option maxHeartbeats 1000000 in
theorem tr6 (w : World) (B s : Nat) (m : MS) (rv : Value) (vs : List Value) (kind lsn rl err : Int) (A : Option Addr) (n k : Nat) (A' : Option Addr) (n' k' : Nat) (h : St w B s m rv vs) (e40 : (err == 40) = false) (sn : ¬ m.sane) :
    Calls Try.prog 15 #[.pointer (some ⟨s, 0, none⟩), .agg #[.int .i64 kind, .int .i64 lsn, .slice A n k], .agg #[.int .i64 err, .int .i64 rl, .slice A' n' k']] w (Post B s rv w none) := by
  have hb := boxed h (.int .i64 kind) (.int .i64 lsn) (.slice A n k) (.int .i64 err) (.int .i64 rl) (.slice A' n' k')
  clear h
  go_enter Try.func15, Try.ntmps15
  go_upto_region 1 with (fail)
  generalize (w.alloc _).alloc _ = w2 at hb ⊢
  generalize w.heap.size = a at hb ⊢
  generalize a + 1 = b at hb ⊢
  have p0 := hb.p.cell 0; have p1 := hb.p.cell 1; have p2 := hb.p.cell 2; have q0 := hb.q.cell 0; have q1 := hb.q.cell 1; have q2 := hb.q.cell 2
  have s0 := hb.st.blk.cell 0; have s1 := hb.st.blk.cell 1; have s2 := hb.st.blk.cell 2; have s3 := hb.st.blk.cell 3; have s4 := hb.st.blk.cell 4; have s5 := hb.st.blk.cell 5
  have s6 := hb.st.blk.cell 6; have f6 := hb.st.blk.frozen 6; have s7 := hb.st.blk.cell 7
  simp [cells] at p0 p1 p2 q0 q1 q2 s0 s1 s2 s3 s4 s5 s6 s7
  have SN := hide sn
  clear sn
  have HB := hide hb
  clear hb
  go_wp2_with (first | (go_at_call 21; refine (sane_false _ _ _ _ s6 s7 SN.out).mono ?_; rintro e w1 ⟨rfl, rfl⟩) | (go_at_call 14; first | (refine (may_true _).mono ?_; rintro e w1 ⟨rfl, rfl⟩) | (refine (may_false _).mono ?_; rintro e w1 ⟨rfl, rfl⟩)))
  exact ⟨rfl, .none HB.out.chg⟩

set_option maxRecDepth 100000 in
set_option maxHeartbeats 1000000 in
theorem tr7 (w : World) (B s : Nat) (m : MS) (rv : Value) (vs : List Value) (kind lsn rl err : Int) (A : Option Addr) (n k : Nat) (A' : Option Addr) (n' k' : Nat) (h : St w B s m rv vs) (e40 : (err == 40) = false) (sn : m.sane) (e1 : (rl == 0) = false) :
    Calls Try.prog 15 #[.pointer (some ⟨s, 0, none⟩), .agg #[.int .i64 kind, .int .i64 lsn, .slice A n k], .agg #[.int .i64 err, .int .i64 rl, .slice A' n' k']] w (Post B s rv w none) := by
  have hb := boxed h (.int .i64 kind) (.int .i64 lsn) (.slice A n k) (.int .i64 err) (.int .i64 rl) (.slice A' n' k')
  clear h
  go_enter Try.func15, Try.ntmps15
  go_upto_region 1 with (fail)
  generalize (w.alloc _).alloc _ = w2 at hb ⊢
  generalize w.heap.size = a at hb ⊢
  generalize a + 1 = b at hb ⊢
  have p0 := hb.p.cell 0; have p1 := hb.p.cell 1; have p2 := hb.p.cell 2; have q0 := hb.q.cell 0; have q1 := hb.q.cell 1; have q2 := hb.q.cell 2
  have s0 := hb.st.blk.cell 0; have s1 := hb.st.blk.cell 1; have s2 := hb.st.blk.cell 2; have s3 := hb.st.blk.cell 3; have s4 := hb.st.blk.cell 4; have s5 := hb.st.blk.cell 5
  have s6 := hb.st.blk.cell 6; have f6 := hb.st.blk.frozen 6; have s7 := hb.st.blk.cell 7
  simp [cells] at p0 p1 p2 q0 q1 q2 s0 s1 s2 s3 s4 s5 s6 s7
  rw [sn.1] at s6
  rw [sn.2] at s7
  have SN := hide sn
  clear sn
  have HB := hide hb
  clear hb
  go_wp2_with (first | (go_at_call 21; refine (sane_true _ _ s6 s7).mono ?_; rintro e w1 ⟨rfl, rfl⟩) | (go_at_call 14; first | (refine (may_true _).mono ?_; rintro e w1 ⟨rfl, rfl⟩) | (refine (may_false _).mono ?_; rintro e w1 ⟨rfl, rfl⟩)))
  exact ⟨rfl, .none HB.out.chg⟩

set_option maxRecDepth 100000 in
set_option maxHeartbeats 1000000 in
theorem tr8 (w : World) (B s : Nat) (m : MS) (rv : Value) (vs : List Value) (kind lsn rl err : Int) (A : Option Addr) (n k : Nat) (A' : Option Addr) (n' k' : Nat) (h : St w B s m rv vs) (e0 : err = 0) (sn : m.sane) (e1 : rl = 0) (e2 : m.first < lsn) :
    Calls Try.prog 15 #[.pointer (some ⟨s, 0, none⟩), .agg #[.int .i64 kind, .int .i64 lsn, .slice A n k], .agg #[.int .i64 err, .int .i64 rl, .slice A' n' k']] w (Post B s rv w (m.front lsn)) := by
  have hb := boxed h (.int .i64 kind) (.int .i64 lsn) (.slice A n k) (.int .i64 err) (.int .i64 rl) (.slice A' n' k')
  clear h
  subst e0 e1
  go_enter Try.func15, Try.ntmps15
  go_upto_region 1 with (fail)
  generalize (w.alloc _).alloc _ = w2 at hb ⊢
  generalize w.heap.size = a at hb ⊢
  generalize a + 1 = b at hb ⊢
  have p0 := hb.p.cell 0; have p1 := hb.p.cell 1; have p2 := hb.p.cell 2; have q0 := hb.q.cell 0; have q1 := hb.q.cell 1; have q2 := hb.q.cell 2
  have s0 := hb.st.blk.cell 0; have s1 := hb.st.blk.cell 1; have s2 := hb.st.blk.cell 2; have s3 := hb.st.blk.cell 3; have s4 := hb.st.blk.cell 4; have s5 := hb.st.blk.cell 5
  have s6 := hb.st.blk.cell 6; have f6 := hb.st.blk.frozen 6; have s7 := hb.st.blk.cell 7
  simp [cells] at p0 p1 p2 q0 q1 q2 s0 s1 s2 s3 s4 s5 s6 s7
  rw [sn.1] at s6
  rw [sn.2] at s7
  have SN := hide sn
  clear sn
  have HB := hide hb
  clear hb
  go_wp2_with (first | (go_at_call 21; refine (sane_true _ _ s6 s7).mono ?_; rintro e w1 ⟨rfl, rfl⟩) | (go_at_call 14; first | (refine (may_true _).mono ?_; rintro e w1 ⟨rfl, rfl⟩) | (refine (may_false _).mono ?_; rintro e w1 ⟨rfl, rfl⟩)) | (go_at_call 22; refine (front_any _ B s m rv vs _ HB.out.st).mono ?_; rintro e w1 hP; have hE := hP.ends; have HP := hide hP; clear hP; rcases hE with rfl | rfl))
  all_goals first | exact ⟨rfl, HP.out.pre HB.out.chg⟩ | (go_end0; exact HP.out.pre HB.out.chg)

set_option maxRecDepth 100000 in
set_option maxHeartbeats 1000000 in
theorem tr9 (w : World) (B s : Nat) (m : MS) (rv : Value) (vs : List Value) (kind lsn rl err : Int) (A : Option Addr) (n k : Nat) (A' : Option Addr) (n' k' : Nat) (h : St w B s m rv vs) (e0 : err = 0) (sn : m.sane) (e1 : rl = 0) (e2 : decide (m.first < lsn) = false) :
    Calls Try.prog 15 #[.pointer (some ⟨s, 0, none⟩), .agg #[.int .i64 kind, .int .i64 lsn, .slice A n k], .agg #[.int .i64 err, .int .i64 rl, .slice A' n' k']] w (Post B s rv w (some m)) := by
  have hb := boxed h (.int .i64 kind) (.int .i64 lsn) (.slice A n k) (.int .i64 err) (.int .i64 rl) (.slice A' n' k')
  clear h
  subst e0 e1
  go_enter Try.func15, Try.ntmps15
  go_upto_region 1 with (fail)
  generalize (w.alloc _).alloc _ = w2 at hb ⊢
  generalize w.heap.size = a at hb ⊢
  generalize a + 1 = b at hb ⊢
  have p0 := hb.p.cell 0; have p1 := hb.p.cell 1; have p2 := hb.p.cell 2; have q0 := hb.q.cell 0; have q1 := hb.q.cell 1; have q2 := hb.q.cell 2
  have s0 := hb.st.blk.cell 0; have s1 := hb.st.blk.cell 1; have s2 := hb.st.blk.cell 2; have s3 := hb.st.blk.cell 3; have s4 := hb.st.blk.cell 4; have s5 := hb.st.blk.cell 5
  have s6 := hb.st.blk.cell 6; have f6 := hb.st.blk.frozen 6; have s7 := hb.st.blk.cell 7
  simp [cells] at p0 p1 p2 q0 q1 q2 s0 s1 s2 s3 s4 s5 s6 s7
  rw [sn.1] at s6
  rw [sn.2] at s7
  have SN := hide sn
  clear sn
  have HB := hide hb
  clear hb
  go_wp2_with (first | (go_at_call 21; refine (sane_true _ _ s6 s7).mono ?_; rintro e w1 ⟨rfl, rfl⟩) | (go_at_call 14; first | (refine (may_true _).mono ?_; rintro e w1 ⟨rfl, rfl⟩) | (refine (may_false _).mono ?_; rintro e w1 ⟨rfl, rfl⟩)))
  go_end0
  exact .same HB.out.chg HB.out.st

set_option maxRecDepth 100000 in
set_option maxHeartbeats 1000000 in
theorem tr10 (w : World) (B s : Nat) (m : MS) (rv : Value) (vs : List Value) (kind lsn rl err : Int) (A : Option Addr) (n k : Nat) (A' : Option Addr) (n' k' : Nat) (h : St w B s m rv vs) (e0 : err = 8) (sn : m.sane) (e1 : rl = 0) (e2 : m.durable < lsn) (e3 : m.first < lsn) :
    Calls Try.prog 15 #[.pointer (some ⟨s, 0, none⟩), .agg #[.int .i64 kind, .int .i64 lsn, .slice A n k], .agg #[.int .i64 err, .int .i64 rl, .slice A' n' k']] w (Post B s rv w (some m)) := by
  have hb := boxed h (.int .i64 kind) (.int .i64 lsn) (.slice A n k) (.int .i64 err) (.int .i64 rl) (.slice A' n' k')
  clear h
  subst e0 e1
  go_enter Try.func15, Try.ntmps15
  go_upto_region 1 with (fail)
  generalize (w.alloc _).alloc _ = w2 at hb ⊢
  generalize w.heap.size = a at hb ⊢
  generalize a + 1 = b at hb ⊢
  have p0 := hb.p.cell 0; have p1 := hb.p.cell 1; have p2 := hb.p.cell 2; have q0 := hb.q.cell 0; have q1 := hb.q.cell 1; have q2 := hb.q.cell 2
  have s0 := hb.st.blk.cell 0; have s1 := hb.st.blk.cell 1; have s2 := hb.st.blk.cell 2; have s3 := hb.st.blk.cell 3; have s4 := hb.st.blk.cell 4; have s5 := hb.st.blk.cell 5
  have s6 := hb.st.blk.cell 6; have f6 := hb.st.blk.frozen 6; have s7 := hb.st.blk.cell 7
  simp [cells] at p0 p1 p2 q0 q1 q2 s0 s1 s2 s3 s4 s5 s6 s7
  rw [sn.1] at s6
  rw [sn.2] at s7
  have SN := hide sn
  clear sn
  have HB := hide hb
  clear hb
  go_wp2_with (first | (go_at_call 21; refine (sane_true _ _ s6 s7).mono ?_; rintro e w1 ⟨rfl, rfl⟩) | (go_at_call 14; first | (refine (may_true _).mono ?_; rintro e w1 ⟨rfl, rfl⟩) | (refine (may_false _).mono ?_; rintro e w1 ⟨rfl, rfl⟩)))
  go_end0
  exact .same HB.out.chg HB.out.st

set_option maxRecDepth 100000 in
set_option maxHeartbeats 1000000 in
theorem tr11 (w : World) (B s : Nat) (m : MS) (rv : Value) (vs : List Value) (kind lsn rl err : Int) (A : Option Addr) (n k : Nat) (A' : Option Addr) (n' k' : Nat) (h : St w B s m rv vs) (e0 : err = 8) (sn : m.sane) (e1 : rl = 0) (e2 : m.durable < lsn) (e3 : decide (m.first < lsn) = false) :
    Calls Try.prog 15 #[.pointer (some ⟨s, 0, none⟩), .agg #[.int .i64 kind, .int .i64 lsn, .slice A n k], .agg #[.int .i64 err, .int .i64 rl, .slice A' n' k']] w (Post B s rv w none) := by
  have hb := boxed h (.int .i64 kind) (.int .i64 lsn) (.slice A n k) (.int .i64 err) (.int .i64 rl) (.slice A' n' k')
  clear h
  subst e0 e1
  go_enter Try.func15, Try.ntmps15
  go_upto_region 1 with (fail)
  generalize (w.alloc _).alloc _ = w2 at hb ⊢
  generalize w.heap.size = a at hb ⊢
  generalize a + 1 = b at hb ⊢
  have p0 := hb.p.cell 0; have p1 := hb.p.cell 1; have p2 := hb.p.cell 2; have q0 := hb.q.cell 0; have q1 := hb.q.cell 1; have q2 := hb.q.cell 2
  have s0 := hb.st.blk.cell 0; have s1 := hb.st.blk.cell 1; have s2 := hb.st.blk.cell 2; have s3 := hb.st.blk.cell 3; have s4 := hb.st.blk.cell 4; have s5 := hb.st.blk.cell 5
  have s6 := hb.st.blk.cell 6; have f6 := hb.st.blk.frozen 6; have s7 := hb.st.blk.cell 7
  simp [cells] at p0 p1 p2 q0 q1 q2 s0 s1 s2 s3 s4 s5 s6 s7
  rw [sn.1] at s6
  rw [sn.2] at s7
  have SN := hide sn
  clear sn
  have HB := hide hb
  clear hb
  go_wp2_with (first | (go_at_call 21; refine (sane_true _ _ s6 s7).mono ?_; rintro e w1 ⟨rfl, rfl⟩) | (go_at_call 14; first | (refine (may_true _).mono ?_; rintro e w1 ⟨rfl, rfl⟩) | (refine (may_false _).mono ?_; rintro e w1 ⟨rfl, rfl⟩)))
  exact ⟨rfl, .none HB.out.chg⟩

set_option maxRecDepth 100000 in
set_option maxHeartbeats 1000000 in
theorem tr12 (w : World) (B s : Nat) (m : MS) (rv : Value) (vs : List Value) (kind lsn rl err : Int) (A : Option Addr) (n k : Nat) (A' : Option Addr) (n' k' : Nat) (h : St w B s m rv vs) (e0 : err = 8) (sn : m.sane) (e1 : rl = 0) (e2 : decide (m.durable < lsn) = false) :
    Calls Try.prog 15 #[.pointer (some ⟨s, 0, none⟩), .agg #[.int .i64 kind, .int .i64 lsn, .slice A n k], .agg #[.int .i64 err, .int .i64 rl, .slice A' n' k']] w (Post B s rv w none) := by
  have hb := boxed h (.int .i64 kind) (.int .i64 lsn) (.slice A n k) (.int .i64 err) (.int .i64 rl) (.slice A' n' k')
  clear h
  subst e0 e1
  go_enter Try.func15, Try.ntmps15
  go_upto_region 1 with (fail)
  generalize (w.alloc _).alloc _ = w2 at hb ⊢
  generalize w.heap.size = a at hb ⊢
  generalize a + 1 = b at hb ⊢
  have p0 := hb.p.cell 0; have p1 := hb.p.cell 1; have p2 := hb.p.cell 2; have q0 := hb.q.cell 0; have q1 := hb.q.cell 1; have q2 := hb.q.cell 2
  have s0 := hb.st.blk.cell 0; have s1 := hb.st.blk.cell 1; have s2 := hb.st.blk.cell 2; have s3 := hb.st.blk.cell 3; have s4 := hb.st.blk.cell 4; have s5 := hb.st.blk.cell 5
  have s6 := hb.st.blk.cell 6; have f6 := hb.st.blk.frozen 6; have s7 := hb.st.blk.cell 7
  simp [cells] at p0 p1 p2 q0 q1 q2 s0 s1 s2 s3 s4 s5 s6 s7
  rw [sn.1] at s6
  rw [sn.2] at s7
  have SN := hide sn
  clear sn
  have HB := hide hb
  clear hb
  go_wp2_with (first | (go_at_call 21; refine (sane_true _ _ s6 s7).mono ?_; rintro e w1 ⟨rfl, rfl⟩) | (go_at_call 14; first | (refine (may_true _).mono ?_; rintro e w1 ⟨rfl, rfl⟩) | (refine (may_false _).mono ?_; rintro e w1 ⟨rfl, rfl⟩)))
  exact ⟨rfl, .none HB.out.chg⟩

set_option maxRecDepth 100000 in
set_option maxHeartbeats 1000000 in
theorem tr13 (w : World) (B s : Nat) (m : MS) (rv : Value) (vs : List Value) (kind lsn rl err : Int) (A : Option Addr) (n k : Nat) (A' : Option Addr) (n' k' : Nat) (h : St w B s m rv vs) (e0 : err = 9) (sn : m.sane) (e1 : rl = 0)  :
    Calls Try.prog 15 #[.pointer (some ⟨s, 0, none⟩), .agg #[.int .i64 kind, .int .i64 lsn, .slice A n k], .agg #[.int .i64 err, .int .i64 rl, .slice A' n' k']] w (Post B s rv w (some m)) := by
  have hb := boxed h (.int .i64 kind) (.int .i64 lsn) (.slice A n k) (.int .i64 err) (.int .i64 rl) (.slice A' n' k')
  clear h
  subst e0 e1
  go_enter Try.func15, Try.ntmps15
  go_upto_region 1 with (fail)
  generalize (w.alloc _).alloc _ = w2 at hb ⊢
  generalize w.heap.size = a at hb ⊢
  generalize a + 1 = b at hb ⊢
  have p0 := hb.p.cell 0; have p1 := hb.p.cell 1; have p2 := hb.p.cell 2; have q0 := hb.q.cell 0; have q1 := hb.q.cell 1; have q2 := hb.q.cell 2
  have s0 := hb.st.blk.cell 0; have s1 := hb.st.blk.cell 1; have s2 := hb.st.blk.cell 2; have s3 := hb.st.blk.cell 3; have s4 := hb.st.blk.cell 4; have s5 := hb.st.blk.cell 5
  have s6 := hb.st.blk.cell 6; have f6 := hb.st.blk.frozen 6; have s7 := hb.st.blk.cell 7
  simp [cells] at p0 p1 p2 q0 q1 q2 s0 s1 s2 s3 s4 s5 s6 s7
  rw [sn.1] at s6
  rw [sn.2] at s7
  have SN := hide sn
  clear sn
  have HB := hide hb
  clear hb
  go_wp2_with (first | (go_at_call 21; refine (sane_true _ _ s6 s7).mono ?_; rintro e w1 ⟨rfl, rfl⟩) | (go_at_call 14; first | (refine (may_true _).mono ?_; rintro e w1 ⟨rfl, rfl⟩) | (refine (may_false _).mono ?_; rintro e w1 ⟨rfl, rfl⟩)))
  go_end0
  exact .same HB.out.chg HB.out.st

set_option maxRecDepth 100000 in
set_option maxHeartbeats 1000000 in
theorem tr14 (w : World) (B s : Nat) (m : MS) (rv : Value) (vs : List Value) (kind lsn rl err : Int) (A : Option Addr) (n k : Nat) (A' : Option Addr) (n' k' : Nat) (h : St w B s m rv vs) (e40 : (err == 40) = false) (e0 : (err == 0) = false) (e8 : (err == 8) = false) (e9 : (err == 9) = false) (sn : m.sane) (e1 : rl = 0)  :
    Calls Try.prog 15 #[.pointer (some ⟨s, 0, none⟩), .agg #[.int .i64 kind, .int .i64 lsn, .slice A n k], .agg #[.int .i64 err, .int .i64 rl, .slice A' n' k']] w (Post B s rv w none) := by
  have hb := boxed h (.int .i64 kind) (.int .i64 lsn) (.slice A n k) (.int .i64 err) (.int .i64 rl) (.slice A' n' k')
  clear h
  subst e1
  go_enter Try.func15, Try.ntmps15
  go_upto_region 1 with (fail)
  generalize (w.alloc _).alloc _ = w2 at hb ⊢
  generalize w.heap.size = a at hb ⊢
  generalize a + 1 = b at hb ⊢
  have p0 := hb.p.cell 0; have p1 := hb.p.cell 1; have p2 := hb.p.cell 2; have q0 := hb.q.cell 0; have q1 := hb.q.cell 1; have q2 := hb.q.cell 2
  have s0 := hb.st.blk.cell 0; have s1 := hb.st.blk.cell 1; have s2 := hb.st.blk.cell 2; have s3 := hb.st.blk.cell 3; have s4 := hb.st.blk.cell 4; have s5 := hb.st.blk.cell 5
  have s6 := hb.st.blk.cell 6; have f6 := hb.st.blk.frozen 6; have s7 := hb.st.blk.cell 7
  simp [cells] at p0 p1 p2 q0 q1 q2 s0 s1 s2 s3 s4 s5 s6 s7
  rw [sn.1] at s6
  rw [sn.2] at s7
  have SN := hide sn
  clear sn
  have HB := hide hb
  clear hb
  go_wp2_with (first | (go_at_call 21; refine (sane_true _ _ s6 s7).mono ?_; rintro e w1 ⟨rfl, rfl⟩) | (go_at_call 14; first | (refine (may_true _).mono ?_; rintro e w1 ⟨rfl, rfl⟩) | (refine (may_false _).mono ?_; rintro e w1 ⟨rfl, rfl⟩)))
  exact ⟨rfl, .none HB.out.chg⟩

theorem truncate_any (w : World) (B s : Nat) (m : MS) (rv : Value) (vs : List Value) (c : CM) (r : RM) (A : Option Addr) (n k : Nat) (A' : Option Addr) (n' k' : Nat) (h : St w B s m rv vs) :
    Calls Try.prog 15 #[.pointer (some ⟨s, 0, none⟩), callV c A n k, resV r A' n' k'] w (Post B s rv w (m.truncate c r)) := by
  obtain ⟨err, rl, l⟩ := r
  obtain ⟨kind, lsn, cl⟩ := c
  unfold callV resV MS.truncate
  simp only
  by_cases e40 : err = 40
  · rw [if_pos e40]
    by_cases e1 : rl = 0
    · rw [if_neg (fun q => q e1)]; exact tr1 w B s m rv vs kind lsn rl err A n k A' n' k' h e40 e1
    · rw [if_pos e1]
      have e1' : (rl == 0) = false := by simpa using e1
      by_cases e2 : rl = lsn
      · by_cases e3 : m.first < lsn
        · rw [if_pos ⟨e2, e3⟩]
          cases hA : m.front lsn with
          | none => exact tr4 w B s m rv vs kind lsn rl err A n k A' n' k' h e40 e1' e2 e3 hA
          | some m1 => exact tr5 w B s m rv vs kind lsn rl err A n k A' n' k' h e40 e1' e2 e3 m1 hA
        · rw [if_neg (fun q => e3 q.2)]; exact tr3 w B s m rv vs kind lsn rl err A n k A' n' k' h e40 e1' e2 (by simpa using e3)
      · rw [if_neg (fun q => e2 q.1)]; exact tr2 w B s m rv vs kind lsn rl err A n k A' n' k' h e40 e1' (by simpa using e2)
  · rw [if_neg e40]
    have e40' : (err == 40) = false := by simpa using e40
    by_cases sn : m.sane
    · rw [if_neg (fun q => q sn)]
      by_cases e1 : rl = 0
      · rw [if_neg (fun q => q e1)]
        by_cases e0 : err = 0
        · rw [if_pos e0]
          by_cases e2 : m.first < lsn
          · rw [if_pos e2]; exact tr8 w B s m rv vs kind lsn rl err A n k A' n' k' h e0 sn e1 e2
          · rw [if_neg e2]; exact tr9 w B s m rv vs kind lsn rl err A n k A' n' k' h e0 sn e1 (by simpa using e2)
        · rw [if_neg e0]
          by_cases e8 : err = 8
          · rw [if_pos e8]
            by_cases e2 : m.durable < lsn
            · by_cases e3 : m.first < lsn
              · rw [if_pos ⟨e2, e3⟩]; exact tr10 w B s m rv vs kind lsn rl err A n k A' n' k' h e8 sn e1 e2 e3
              · rw [if_neg (fun q => e3 q.2)]; exact tr11 w B s m rv vs kind lsn rl err A n k A' n' k' h e8 sn e1 e2 (by simpa using e3)
            · rw [if_neg (fun q => e2 q.1)]; exact tr12 w B s m rv vs kind lsn rl err A n k A' n' k' h e8 sn e1 (by simpa using e2)
          · rw [if_neg e8]
            by_cases e9 : err = 9
            · rw [if_pos e9]; exact tr13 w B s m rv vs kind lsn rl err A n k A' n' k' h e9 sn e1
            · rw [if_neg e9]; exact tr14 w B s m rv vs kind lsn rl err A n k A' n' k' h e40' (by simpa using e0) (by simpa using e8) (by simpa using e9) sn e1
      · rw [if_pos e1]; exact tr7 w B s m rv vs kind lsn rl err A n k A' n' k' h e40' sn (by simpa using e1)
    · rw [if_pos sn]; exact tr6 w B s m rv vs kind lsn rl err A n k A' n' k' h e40' sn
end Go.Proofs.Ytemllidcnamlmaa
