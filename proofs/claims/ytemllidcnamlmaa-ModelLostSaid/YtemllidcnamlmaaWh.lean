/- The walks of answer, Apply's and Half's inner functions, used. -/
import Derived.Test.YtemllidcnamlmaaWg
namespace Go.Proofs.Ytemllidcnamlmaa
open Go.RowKit

set_option maxRecDepth 100000 in
set_option maxHeartbeats 1000000 in
theorem ans4z (w : World) (B s : Nat) (m : MS) (rv : Value) (vs : List Value) (kind lsn rl err : Int) (A : Option Addr) (n k : Nat) (A' : Option Addr) (n' k' : Nat) (h : St w B s m rv vs) (cl l : List Int) (hi : m.Inv) (hd : Byt w w.heap.size A n k cl) (hr : Byt w w.heap.size A' n' k' l) (z : n' = 0) (ek : kind = 4) :
    Calls Try.prog 17 #[.pointer (some ⟨s, 0, none⟩), .agg #[.int .i64 kind, .int .i64 lsn, .slice A n k], .agg #[.int .i64 err, .int .i64 rl, .slice A' n' k']] w (Post B s rv w (m.read ⟨4, lsn, cl⟩ ⟨err, rl, l⟩)) := by
  have hd2 := (hd.alloc (.cells #[.int .i64 kind, .int .i64 lsn, .slice A n k] 32)).alloc (.cells #[.int .i64 err, .int .i64 rl, .slice A' n' k'] 34)
  have hr2 := (hr.alloc (.cells #[.int .i64 kind, .int .i64 lsn, .slice A n k] 32)).alloc (.cells #[.int .i64 err, .int .i64 rl, .slice A' n' k'] 34)
  clear hd hr
  have hb := boxed h (.int .i64 kind) (.int .i64 lsn) (.slice A n k) (.int .i64 err) (.int .i64 rl) (.slice A' n' k')
  clear h
  subst z ek
  go_enter Try.func17, Try.ntmps17
  go_upto_region 1 with (fail)
  generalize (w.alloc _).alloc _ = w2 at hb hd2 hr2 ⊢
  generalize w.heap.size = a at hb ⊢
  generalize a + 1 = b at hb ⊢
  have p0 := hb.p.cell 0; have p1 := hb.p.cell 1; have p2 := hb.p.cell 2; have q0 := hb.q.cell 0; have q1 := hb.q.cell 1; have q2 := hb.q.cell 2
  have s0 := hb.st.blk.cell 0; have s1 := hb.st.blk.cell 1; have s2 := hb.st.blk.cell 2; have s3 := hb.st.blk.cell 3; have s4 := hb.st.blk.cell 4; have s5 := hb.st.blk.cell 5
  have s6 := hb.st.blk.cell 6; have f6 := hb.st.blk.frozen 6; have s7 := hb.st.blk.cell 7
  simp [cells] at p0 p1 p2 q0 q1 q2 s0 s1 s2 s3 s4 s5 s6 s7
  have HB := hide hb
  clear hb
  have HD := hide hd2; have HR := hide hr2; have HI := hide hi
  clear hd2 hr2 hi
  go_wp2_with (first | (go_at_call 14; first | (refine (may_true _).mono ?_; rintro e w1 ⟨rfl, rfl⟩) | (refine (may_false _).mono ?_; rintro e w1 ⟨rfl, rfl⟩)) | (go_at_call 23; refine (read_any _ B s m rv vs ⟨4, lsn, cl⟩ ⟨err, rl, l⟩ A n k A' _ k' HB.out.st HI.out HR.out).mono ?_; rintro e w1 hP; have hE := hP.ends; have HP := hide hP; clear hP; rcases hE with rfl | rfl))
  all_goals first | exact ⟨rfl, HP.out.pre HB.out.chg⟩ | (go_end0; exact HP.out.pre HB.out.chg)

set_option maxRecDepth 100000 in
set_option maxHeartbeats 1000000 in
theorem ans4n (w : World) (B s : Nat) (m : MS) (rv : Value) (vs : List Value) (kind lsn rl err : Int) (A : Option Addr) (n k : Nat) (A' : Option Addr) (n' k' : Nat) (h : St w B s m rv vs) (cl l : List Int) (hi : m.Inv) (hd : Byt w w.heap.size A n k cl) (hr : Byt w w.heap.size A' n' k' l) (z : ((n' : Int) == 0) = false) (ek : kind = 4) (e0 : err = 0) :
    Calls Try.prog 17 #[.pointer (some ⟨s, 0, none⟩), .agg #[.int .i64 kind, .int .i64 lsn, .slice A n k], .agg #[.int .i64 err, .int .i64 rl, .slice A' n' k']] w (Post B s rv w (m.read ⟨4, lsn, cl⟩ ⟨0, rl, l⟩)) := by
  have hd2 := (hd.alloc (.cells #[.int .i64 kind, .int .i64 lsn, .slice A n k] 32)).alloc (.cells #[.int .i64 err, .int .i64 rl, .slice A' n' k'] 34)
  have hr2 := (hr.alloc (.cells #[.int .i64 kind, .int .i64 lsn, .slice A n k] 32)).alloc (.cells #[.int .i64 err, .int .i64 rl, .slice A' n' k'] 34)
  clear hd hr
  have hb := boxed h (.int .i64 kind) (.int .i64 lsn) (.slice A n k) (.int .i64 err) (.int .i64 rl) (.slice A' n' k')
  clear h
  subst e0 ek
  go_enter Try.func17, Try.ntmps17
  go_upto_region 1 with (fail)
  generalize (w.alloc _).alloc _ = w2 at hb hd2 hr2 ⊢
  generalize w.heap.size = a at hb ⊢
  generalize a + 1 = b at hb ⊢
  have p0 := hb.p.cell 0; have p1 := hb.p.cell 1; have p2 := hb.p.cell 2; have q0 := hb.q.cell 0; have q1 := hb.q.cell 1; have q2 := hb.q.cell 2
  have s0 := hb.st.blk.cell 0; have s1 := hb.st.blk.cell 1; have s2 := hb.st.blk.cell 2; have s3 := hb.st.blk.cell 3; have s4 := hb.st.blk.cell 4; have s5 := hb.st.blk.cell 5
  have s6 := hb.st.blk.cell 6; have f6 := hb.st.blk.frozen 6; have s7 := hb.st.blk.cell 7
  simp [cells] at p0 p1 p2 q0 q1 q2 s0 s1 s2 s3 s4 s5 s6 s7
  have HB := hide hb
  clear hb
  have HD := hide hd2; have HR := hide hr2; have HI := hide hi
  clear hd2 hr2 hi
  go_wp2_with (first | (go_at_call 14; first | (refine (may_true _).mono ?_; rintro e w1 ⟨rfl, rfl⟩) | (refine (may_false _).mono ?_; rintro e w1 ⟨rfl, rfl⟩)) | (go_at_call 23; refine (read_any _ B s m rv vs ⟨4, lsn, cl⟩ ⟨0, rl, l⟩ A n k A' _ k' HB.out.st HI.out HR.out).mono ?_; rintro e w1 hP; have hE := hP.ends; have HP := hide hP; clear hP; rcases hE with rfl | rfl))
  all_goals first | exact ⟨rfl, HP.out.pre HB.out.chg⟩ | (go_end0; exact HP.out.pre HB.out.chg)

set_option maxRecDepth 100000 in
set_option maxHeartbeats 1000000 in
theorem ans4e (w : World) (B s : Nat) (m : MS) (rv : Value) (vs : List Value) (kind lsn rl err : Int) (A : Option Addr) (n k : Nat) (A' : Option Addr) (n' k' : Nat) (h : St w B s m rv vs) (cl l : List Int) (hi : m.Inv) (hd : Byt w w.heap.size A n k cl) (hr : Byt w w.heap.size A' n' k' l) (z : ((n' : Int) == 0) = false) (ek : kind = 4) (e0 : (err == 0) = false) :
    Calls Try.prog 17 #[.pointer (some ⟨s, 0, none⟩), .agg #[.int .i64 kind, .int .i64 lsn, .slice A n k], .agg #[.int .i64 err, .int .i64 rl, .slice A' n' k']] w (Post B s rv w none) := by
  have hd2 := (hd.alloc (.cells #[.int .i64 kind, .int .i64 lsn, .slice A n k] 32)).alloc (.cells #[.int .i64 err, .int .i64 rl, .slice A' n' k'] 34)
  have hr2 := (hr.alloc (.cells #[.int .i64 kind, .int .i64 lsn, .slice A n k] 32)).alloc (.cells #[.int .i64 err, .int .i64 rl, .slice A' n' k'] 34)
  clear hd hr
  have hb := boxed h (.int .i64 kind) (.int .i64 lsn) (.slice A n k) (.int .i64 err) (.int .i64 rl) (.slice A' n' k')
  clear h
  subst ek
  go_enter Try.func17, Try.ntmps17
  go_upto_region 1 with (fail)
  generalize (w.alloc _).alloc _ = w2 at hb hd2 hr2 ⊢
  generalize w.heap.size = a at hb ⊢
  generalize a + 1 = b at hb ⊢
  have p0 := hb.p.cell 0; have p1 := hb.p.cell 1; have p2 := hb.p.cell 2; have q0 := hb.q.cell 0; have q1 := hb.q.cell 1; have q2 := hb.q.cell 2
  have s0 := hb.st.blk.cell 0; have s1 := hb.st.blk.cell 1; have s2 := hb.st.blk.cell 2; have s3 := hb.st.blk.cell 3; have s4 := hb.st.blk.cell 4; have s5 := hb.st.blk.cell 5
  have s6 := hb.st.blk.cell 6; have f6 := hb.st.blk.frozen 6; have s7 := hb.st.blk.cell 7
  simp [cells] at p0 p1 p2 q0 q1 q2 s0 s1 s2 s3 s4 s5 s6 s7
  have HB := hide hb
  clear hb
  have HD := hide hd2; have HR := hide hr2; have HI := hide hi
  clear hd2 hr2 hi
  go_wp2_with (first | (go_at_call 14; first | (refine (may_true _).mono ?_; rintro e w1 ⟨rfl, rfl⟩) | (refine (may_false _).mono ?_; rintro e w1 ⟨rfl, rfl⟩)))
  exact ⟨rfl, .none HB.out.chg⟩

set_option maxRecDepth 100000 in
set_option maxHeartbeats 1000000 in
theorem ans5z (w : World) (B s : Nat) (m : MS) (rv : Value) (vs : List Value) (kind lsn rl err : Int) (A : Option Addr) (n k : Nat) (A' : Option Addr) (n' k' : Nat) (h : St w B s m rv vs) (cl l : List Int) (hi : m.Inv) (hd : Byt w w.heap.size A n k cl) (hr : Byt w w.heap.size A' n' k' l) (z : n' = 0) (ek : kind = 5) :
    Calls Try.prog 17 #[.pointer (some ⟨s, 0, none⟩), .agg #[.int .i64 kind, .int .i64 lsn, .slice A n k], .agg #[.int .i64 err, .int .i64 rl, .slice A' n' k']] w (Post B s rv w (m.read ⟨5, lsn, cl⟩ ⟨err, rl, l⟩)) := by
  have hd2 := (hd.alloc (.cells #[.int .i64 kind, .int .i64 lsn, .slice A n k] 32)).alloc (.cells #[.int .i64 err, .int .i64 rl, .slice A' n' k'] 34)
  have hr2 := (hr.alloc (.cells #[.int .i64 kind, .int .i64 lsn, .slice A n k] 32)).alloc (.cells #[.int .i64 err, .int .i64 rl, .slice A' n' k'] 34)
  clear hd hr
  have hb := boxed h (.int .i64 kind) (.int .i64 lsn) (.slice A n k) (.int .i64 err) (.int .i64 rl) (.slice A' n' k')
  clear h
  subst z ek
  go_enter Try.func17, Try.ntmps17
  go_upto_region 1 with (fail)
  generalize (w.alloc _).alloc _ = w2 at hb hd2 hr2 ⊢
  generalize w.heap.size = a at hb ⊢
  generalize a + 1 = b at hb ⊢
  have p0 := hb.p.cell 0; have p1 := hb.p.cell 1; have p2 := hb.p.cell 2; have q0 := hb.q.cell 0; have q1 := hb.q.cell 1; have q2 := hb.q.cell 2
  have s0 := hb.st.blk.cell 0; have s1 := hb.st.blk.cell 1; have s2 := hb.st.blk.cell 2; have s3 := hb.st.blk.cell 3; have s4 := hb.st.blk.cell 4; have s5 := hb.st.blk.cell 5
  have s6 := hb.st.blk.cell 6; have f6 := hb.st.blk.frozen 6; have s7 := hb.st.blk.cell 7
  simp [cells] at p0 p1 p2 q0 q1 q2 s0 s1 s2 s3 s4 s5 s6 s7
  have HB := hide hb
  clear hb
  have HD := hide hd2; have HR := hide hr2; have HI := hide hi
  clear hd2 hr2 hi
  go_wp2_with (first | (go_at_call 14; first | (refine (may_true _).mono ?_; rintro e w1 ⟨rfl, rfl⟩) | (refine (may_false _).mono ?_; rintro e w1 ⟨rfl, rfl⟩)) | (go_at_call 23; refine (read_any _ B s m rv vs ⟨5, lsn, cl⟩ ⟨err, rl, l⟩ A n k A' _ k' HB.out.st HI.out HR.out).mono ?_; rintro e w1 hP; have hE := hP.ends; have HP := hide hP; clear hP; rcases hE with rfl | rfl))
  all_goals first | exact ⟨rfl, HP.out.pre HB.out.chg⟩ | (go_end0; exact HP.out.pre HB.out.chg)

set_option maxRecDepth 100000 in
set_option maxHeartbeats 1000000 in
theorem ans5n (w : World) (B s : Nat) (m : MS) (rv : Value) (vs : List Value) (kind lsn rl err : Int) (A : Option Addr) (n k : Nat) (A' : Option Addr) (n' k' : Nat) (h : St w B s m rv vs) (cl l : List Int) (hi : m.Inv) (hd : Byt w w.heap.size A n k cl) (hr : Byt w w.heap.size A' n' k' l) (z : ((n' : Int) == 0) = false) (ek : kind = 5) (e0 : err = 0) :
    Calls Try.prog 17 #[.pointer (some ⟨s, 0, none⟩), .agg #[.int .i64 kind, .int .i64 lsn, .slice A n k], .agg #[.int .i64 err, .int .i64 rl, .slice A' n' k']] w (Post B s rv w (m.read ⟨5, lsn, cl⟩ ⟨0, rl, l⟩)) := by
  have hd2 := (hd.alloc (.cells #[.int .i64 kind, .int .i64 lsn, .slice A n k] 32)).alloc (.cells #[.int .i64 err, .int .i64 rl, .slice A' n' k'] 34)
  have hr2 := (hr.alloc (.cells #[.int .i64 kind, .int .i64 lsn, .slice A n k] 32)).alloc (.cells #[.int .i64 err, .int .i64 rl, .slice A' n' k'] 34)
  clear hd hr
  have hb := boxed h (.int .i64 kind) (.int .i64 lsn) (.slice A n k) (.int .i64 err) (.int .i64 rl) (.slice A' n' k')
  clear h
  subst e0 ek
  go_enter Try.func17, Try.ntmps17
  go_upto_region 1 with (fail)
  generalize (w.alloc _).alloc _ = w2 at hb hd2 hr2 ⊢
  generalize w.heap.size = a at hb ⊢
  generalize a + 1 = b at hb ⊢
  have p0 := hb.p.cell 0; have p1 := hb.p.cell 1; have p2 := hb.p.cell 2; have q0 := hb.q.cell 0; have q1 := hb.q.cell 1; have q2 := hb.q.cell 2
  have s0 := hb.st.blk.cell 0; have s1 := hb.st.blk.cell 1; have s2 := hb.st.blk.cell 2; have s3 := hb.st.blk.cell 3; have s4 := hb.st.blk.cell 4; have s5 := hb.st.blk.cell 5
  have s6 := hb.st.blk.cell 6; have f6 := hb.st.blk.frozen 6; have s7 := hb.st.blk.cell 7
  simp [cells] at p0 p1 p2 q0 q1 q2 s0 s1 s2 s3 s4 s5 s6 s7
  have HB := hide hb
  clear hb
  have HD := hide hd2; have HR := hide hr2; have HI := hide hi
  clear hd2 hr2 hi
  go_wp2_with (first | (go_at_call 14; first | (refine (may_true _).mono ?_; rintro e w1 ⟨rfl, rfl⟩) | (refine (may_false _).mono ?_; rintro e w1 ⟨rfl, rfl⟩)) | (go_at_call 23; refine (read_any _ B s m rv vs ⟨5, lsn, cl⟩ ⟨0, rl, l⟩ A n k A' _ k' HB.out.st HI.out HR.out).mono ?_; rintro e w1 hP; have hE := hP.ends; have HP := hide hP; clear hP; rcases hE with rfl | rfl))
  all_goals first | exact ⟨rfl, HP.out.pre HB.out.chg⟩ | (go_end0; exact HP.out.pre HB.out.chg)

set_option maxRecDepth 100000 in
set_option maxHeartbeats 1000000 in
theorem ans5e (w : World) (B s : Nat) (m : MS) (rv : Value) (vs : List Value) (kind lsn rl err : Int) (A : Option Addr) (n k : Nat) (A' : Option Addr) (n' k' : Nat) (h : St w B s m rv vs) (cl l : List Int) (hi : m.Inv) (hd : Byt w w.heap.size A n k cl) (hr : Byt w w.heap.size A' n' k' l) (z : ((n' : Int) == 0) = false) (ek : kind = 5) (e0 : (err == 0) = false) :
    Calls Try.prog 17 #[.pointer (some ⟨s, 0, none⟩), .agg #[.int .i64 kind, .int .i64 lsn, .slice A n k], .agg #[.int .i64 err, .int .i64 rl, .slice A' n' k']] w (Post B s rv w none) := by
  have hd2 := (hd.alloc (.cells #[.int .i64 kind, .int .i64 lsn, .slice A n k] 32)).alloc (.cells #[.int .i64 err, .int .i64 rl, .slice A' n' k'] 34)
  have hr2 := (hr.alloc (.cells #[.int .i64 kind, .int .i64 lsn, .slice A n k] 32)).alloc (.cells #[.int .i64 err, .int .i64 rl, .slice A' n' k'] 34)
  clear hd hr
  have hb := boxed h (.int .i64 kind) (.int .i64 lsn) (.slice A n k) (.int .i64 err) (.int .i64 rl) (.slice A' n' k')
  clear h
  subst ek
  go_enter Try.func17, Try.ntmps17
  go_upto_region 1 with (fail)
  generalize (w.alloc _).alloc _ = w2 at hb hd2 hr2 ⊢
  generalize w.heap.size = a at hb ⊢
  generalize a + 1 = b at hb ⊢
  have p0 := hb.p.cell 0; have p1 := hb.p.cell 1; have p2 := hb.p.cell 2; have q0 := hb.q.cell 0; have q1 := hb.q.cell 1; have q2 := hb.q.cell 2
  have s0 := hb.st.blk.cell 0; have s1 := hb.st.blk.cell 1; have s2 := hb.st.blk.cell 2; have s3 := hb.st.blk.cell 3; have s4 := hb.st.blk.cell 4; have s5 := hb.st.blk.cell 5
  have s6 := hb.st.blk.cell 6; have f6 := hb.st.blk.frozen 6; have s7 := hb.st.blk.cell 7
  simp [cells] at p0 p1 p2 q0 q1 q2 s0 s1 s2 s3 s4 s5 s6 s7
  have HB := hide hb
  clear hb
  have HD := hide hd2; have HR := hide hr2; have HI := hide hi
  clear hd2 hr2 hi
  go_wp2_with (first | (go_at_call 14; first | (refine (may_true _).mono ?_; rintro e w1 ⟨rfl, rfl⟩) | (refine (may_false _).mono ?_; rintro e w1 ⟨rfl, rfl⟩)))
  exact ⟨rfl, .none HB.out.chg⟩

set_option maxRecDepth 100000 in
set_option maxHeartbeats 1000000 in
theorem ans1z (w : World) (B s : Nat) (m : MS) (rv : Value) (vs : List Value) (kind lsn rl err : Int) (A : Option Addr) (n k : Nat) (A' : Option Addr) (n' k' : Nat) (h : St w B s m rv vs) (cl l : List Int) (hi : m.Inv) (hd : Byt w w.heap.size A n k cl) (hr : Byt w w.heap.size A' n' k' l) (z : n' = 0) (ek : kind = 1) :
    Calls Try.prog 17 #[.pointer (some ⟨s, 0, none⟩), .agg #[.int .i64 kind, .int .i64 lsn, .slice A n k], .agg #[.int .i64 err, .int .i64 rl, .slice A' n' k']] w (Post B s rv w (m.append ⟨1, lsn, cl⟩ ⟨err, rl, l⟩)) := by
  have hd2 := (hd.alloc (.cells #[.int .i64 kind, .int .i64 lsn, .slice A n k] 32)).alloc (.cells #[.int .i64 err, .int .i64 rl, .slice A' n' k'] 34)
  have hr2 := (hr.alloc (.cells #[.int .i64 kind, .int .i64 lsn, .slice A n k] 32)).alloc (.cells #[.int .i64 err, .int .i64 rl, .slice A' n' k'] 34)
  clear hd hr
  have hb := boxed h (.int .i64 kind) (.int .i64 lsn) (.slice A n k) (.int .i64 err) (.int .i64 rl) (.slice A' n' k')
  clear h
  subst z ek
  go_enter Try.func17, Try.ntmps17
  go_upto_region 1 with (fail)
  generalize (w.alloc _).alloc _ = w2 at hb hd2 hr2 ⊢
  generalize w.heap.size = a at hb ⊢
  generalize a + 1 = b at hb ⊢
  have p0 := hb.p.cell 0; have p1 := hb.p.cell 1; have p2 := hb.p.cell 2; have q0 := hb.q.cell 0; have q1 := hb.q.cell 1; have q2 := hb.q.cell 2
  have s0 := hb.st.blk.cell 0; have s1 := hb.st.blk.cell 1; have s2 := hb.st.blk.cell 2; have s3 := hb.st.blk.cell 3; have s4 := hb.st.blk.cell 4; have s5 := hb.st.blk.cell 5
  have s6 := hb.st.blk.cell 6; have f6 := hb.st.blk.frozen 6; have s7 := hb.st.blk.cell 7
  simp [cells] at p0 p1 p2 q0 q1 q2 s0 s1 s2 s3 s4 s5 s6 s7
  have HB := hide hb
  clear hb
  have HD := hide hd2; have HR := hide hr2; have HI := hide hi
  clear hd2 hr2 hi
  go_wp2_with (first | (go_at_call 14; first | (refine (may_true _).mono ?_; rintro e w1 ⟨rfl, rfl⟩) | (refine (may_false _).mono ?_; rintro e w1 ⟨rfl, rfl⟩)) | (go_at_call 24; refine (append_any _ B s m rv vs ⟨1, lsn, cl⟩ ⟨err, rl, l⟩ A n k A' _ k' HB.out.st HI.out HD.out).mono ?_; rintro e w1 hP; have hE := hP.ends; have HP := hide hP; clear hP; rcases hE with rfl | rfl))
  all_goals first | exact ⟨rfl, HP.out.pre HB.out.chg⟩ | (go_end0; exact HP.out.pre HB.out.chg)

set_option maxRecDepth 100000 in
set_option maxHeartbeats 1000000 in
theorem ans2z (w : World) (B s : Nat) (m : MS) (rv : Value) (vs : List Value) (kind lsn rl err : Int) (A : Option Addr) (n k : Nat) (A' : Option Addr) (n' k' : Nat) (h : St w B s m rv vs) (cl l : List Int) (hi : m.Inv) (hd : Byt w w.heap.size A n k cl) (hr : Byt w w.heap.size A' n' k' l) (z : n' = 0) (ek : kind = 2) :
    Calls Try.prog 17 #[.pointer (some ⟨s, 0, none⟩), .agg #[.int .i64 kind, .int .i64 lsn, .slice A n k], .agg #[.int .i64 err, .int .i64 rl, .slice A' n' k']] w (Post B s rv w (m.append ⟨2, lsn, cl⟩ ⟨err, rl, l⟩)) := by
  have hd2 := (hd.alloc (.cells #[.int .i64 kind, .int .i64 lsn, .slice A n k] 32)).alloc (.cells #[.int .i64 err, .int .i64 rl, .slice A' n' k'] 34)
  have hr2 := (hr.alloc (.cells #[.int .i64 kind, .int .i64 lsn, .slice A n k] 32)).alloc (.cells #[.int .i64 err, .int .i64 rl, .slice A' n' k'] 34)
  clear hd hr
  have hb := boxed h (.int .i64 kind) (.int .i64 lsn) (.slice A n k) (.int .i64 err) (.int .i64 rl) (.slice A' n' k')
  clear h
  subst z ek
  go_enter Try.func17, Try.ntmps17
  go_upto_region 1 with (fail)
  generalize (w.alloc _).alloc _ = w2 at hb hd2 hr2 ⊢
  generalize w.heap.size = a at hb ⊢
  generalize a + 1 = b at hb ⊢
  have p0 := hb.p.cell 0; have p1 := hb.p.cell 1; have p2 := hb.p.cell 2; have q0 := hb.q.cell 0; have q1 := hb.q.cell 1; have q2 := hb.q.cell 2
  have s0 := hb.st.blk.cell 0; have s1 := hb.st.blk.cell 1; have s2 := hb.st.blk.cell 2; have s3 := hb.st.blk.cell 3; have s4 := hb.st.blk.cell 4; have s5 := hb.st.blk.cell 5
  have s6 := hb.st.blk.cell 6; have f6 := hb.st.blk.frozen 6; have s7 := hb.st.blk.cell 7
  simp [cells] at p0 p1 p2 q0 q1 q2 s0 s1 s2 s3 s4 s5 s6 s7
  have HB := hide hb
  clear hb
  have HD := hide hd2; have HR := hide hr2; have HI := hide hi
  clear hd2 hr2 hi
  go_wp2_with (first | (go_at_call 14; first | (refine (may_true _).mono ?_; rintro e w1 ⟨rfl, rfl⟩) | (refine (may_false _).mono ?_; rintro e w1 ⟨rfl, rfl⟩)) | (go_at_call 24; refine (append_any _ B s m rv vs ⟨2, lsn, cl⟩ ⟨err, rl, l⟩ A n k A' _ k' HB.out.st HI.out HD.out).mono ?_; rintro e w1 hP; have hE := hP.ends; have HP := hide hP; clear hP; rcases hE with rfl | rfl))
  all_goals first | exact ⟨rfl, HP.out.pre HB.out.chg⟩ | (go_end0; exact HP.out.pre HB.out.chg)

set_option maxRecDepth 100000 in
set_option maxHeartbeats 1000000 in
theorem ans6z (w : World) (B s : Nat) (m : MS) (rv : Value) (vs : List Value) (kind lsn rl err : Int) (A : Option Addr) (n k : Nat) (A' : Option Addr) (n' k' : Nat) (h : St w B s m rv vs) (cl l : List Int) (hi : m.Inv) (hd : Byt w w.heap.size A n k cl) (hr : Byt w w.heap.size A' n' k' l) (z : n' = 0) (ek : kind = 6) :
    Calls Try.prog 17 #[.pointer (some ⟨s, 0, none⟩), .agg #[.int .i64 kind, .int .i64 lsn, .slice A n k], .agg #[.int .i64 err, .int .i64 rl, .slice A' n' k']] w (Post B s rv w (m.truncate ⟨6, lsn, cl⟩ ⟨err, rl, l⟩)) := by
  have hd2 := (hd.alloc (.cells #[.int .i64 kind, .int .i64 lsn, .slice A n k] 32)).alloc (.cells #[.int .i64 err, .int .i64 rl, .slice A' n' k'] 34)
  have hr2 := (hr.alloc (.cells #[.int .i64 kind, .int .i64 lsn, .slice A n k] 32)).alloc (.cells #[.int .i64 err, .int .i64 rl, .slice A' n' k'] 34)
  clear hd hr
  have hb := boxed h (.int .i64 kind) (.int .i64 lsn) (.slice A n k) (.int .i64 err) (.int .i64 rl) (.slice A' n' k')
  clear h
  subst z ek
  go_enter Try.func17, Try.ntmps17
  go_upto_region 1 with (fail)
  generalize (w.alloc _).alloc _ = w2 at hb hd2 hr2 ⊢
  generalize w.heap.size = a at hb ⊢
  generalize a + 1 = b at hb ⊢
  have p0 := hb.p.cell 0; have p1 := hb.p.cell 1; have p2 := hb.p.cell 2; have q0 := hb.q.cell 0; have q1 := hb.q.cell 1; have q2 := hb.q.cell 2
  have s0 := hb.st.blk.cell 0; have s1 := hb.st.blk.cell 1; have s2 := hb.st.blk.cell 2; have s3 := hb.st.blk.cell 3; have s4 := hb.st.blk.cell 4; have s5 := hb.st.blk.cell 5
  have s6 := hb.st.blk.cell 6; have f6 := hb.st.blk.frozen 6; have s7 := hb.st.blk.cell 7
  simp [cells] at p0 p1 p2 q0 q1 q2 s0 s1 s2 s3 s4 s5 s6 s7
  have HB := hide hb
  clear hb
  have HD := hide hd2; have HR := hide hr2; have HI := hide hi
  clear hd2 hr2 hi
  go_wp2_with (first | (go_at_call 14; first | (refine (may_true _).mono ?_; rintro e w1 ⟨rfl, rfl⟩) | (refine (may_false _).mono ?_; rintro e w1 ⟨rfl, rfl⟩)) | (go_at_call 15; refine (truncate_any _ B s m rv vs ⟨6, lsn, cl⟩ ⟨err, rl, l⟩ A n k A' _ k' HB.out.st).mono ?_; rintro e w1 hP; have hE := hP.ends; have HP := hide hP; clear hP; rcases hE with rfl | rfl))
  all_goals first | exact ⟨rfl, HP.out.pre HB.out.chg⟩ | (go_end0; exact HP.out.pre HB.out.chg)

set_option maxRecDepth 100000 in
set_option maxHeartbeats 1000000 in
theorem ans3z (w : World) (B s : Nat) (m : MS) (rv : Value) (vs : List Value) (kind lsn rl err : Int) (A : Option Addr) (n k : Nat) (A' : Option Addr) (n' k' : Nat) (h : St w B s m rv vs) (cl l : List Int) (hi : m.Inv) (hd : Byt w w.heap.size A n k cl) (hr : Byt w w.heap.size A' n' k' l) (z : n' = 0) (ek : kind = 3) :
    Calls Try.prog 17 #[.pointer (some ⟨s, 0, none⟩), .agg #[.int .i64 kind, .int .i64 lsn, .slice A n k], .agg #[.int .i64 err, .int .i64 rl, .slice A' n' k']] w (Post B s rv w (m.sync ⟨err, rl, l⟩)) := by
  have hd2 := (hd.alloc (.cells #[.int .i64 kind, .int .i64 lsn, .slice A n k] 32)).alloc (.cells #[.int .i64 err, .int .i64 rl, .slice A' n' k'] 34)
  have hr2 := (hr.alloc (.cells #[.int .i64 kind, .int .i64 lsn, .slice A n k] 32)).alloc (.cells #[.int .i64 err, .int .i64 rl, .slice A' n' k'] 34)
  clear hd hr
  have hb := boxed h (.int .i64 kind) (.int .i64 lsn) (.slice A n k) (.int .i64 err) (.int .i64 rl) (.slice A' n' k')
  clear h
  subst z ek
  go_enter Try.func17, Try.ntmps17
  go_upto_region 1 with (fail)
  generalize (w.alloc _).alloc _ = w2 at hb hd2 hr2 ⊢
  generalize w.heap.size = a at hb ⊢
  generalize a + 1 = b at hb ⊢
  have p0 := hb.p.cell 0; have p1 := hb.p.cell 1; have p2 := hb.p.cell 2; have q0 := hb.q.cell 0; have q1 := hb.q.cell 1; have q2 := hb.q.cell 2
  have s0 := hb.st.blk.cell 0; have s1 := hb.st.blk.cell 1; have s2 := hb.st.blk.cell 2; have s3 := hb.st.blk.cell 3; have s4 := hb.st.blk.cell 4; have s5 := hb.st.blk.cell 5
  have s6 := hb.st.blk.cell 6; have f6 := hb.st.blk.frozen 6; have s7 := hb.st.blk.cell 7
  simp [cells] at p0 p1 p2 q0 q1 q2 s0 s1 s2 s3 s4 s5 s6 s7
  have HB := hide hb
  clear hb
  have HD := hide hd2; have HR := hide hr2; have HI := hide hi
  clear hd2 hr2 hi
  go_wp2_with (first | (go_at_call 14; first | (refine (may_true _).mono ?_; rintro e w1 ⟨rfl, rfl⟩) | (refine (may_false _).mono ?_; rintro e w1 ⟨rfl, rfl⟩)) | (go_at_call 25; refine (sync_any _ B s m rv vs ⟨err, rl, l⟩ A' _ k' HB.out.st).mono ?_; rintro e w1 hP; have hE := hP.ends; have HP := hide hP; clear hP; rcases hE with rfl | rfl))
  all_goals first | exact ⟨rfl, HP.out.pre HB.out.chg⟩ | (go_end0; exact HP.out.pre HB.out.chg)

set_option maxRecDepth 100000 in
set_option maxHeartbeats 1000000 in
theorem ansxz (w : World) (B s : Nat) (m : MS) (rv : Value) (vs : List Value) (kind lsn rl err : Int) (A : Option Addr) (n k : Nat) (A' : Option Addr) (n' k' : Nat) (h : St w B s m rv vs) (cl l : List Int) (hi : m.Inv) (hd : Byt w w.heap.size A n k cl) (hr : Byt w w.heap.size A' n' k' l) (z : n' = 0) (k4 : (kind == 4) = false) (k5 : (kind == 5) = false) (k1 : (kind == 1) = false) (k2 : (kind == 2) = false) (k6 : (kind == 6) = false) (k3 : (kind == 3) = false) :
    Calls Try.prog 17 #[.pointer (some ⟨s, 0, none⟩), .agg #[.int .i64 kind, .int .i64 lsn, .slice A n k], .agg #[.int .i64 err, .int .i64 rl, .slice A' n' k']] w (Post B s rv w (m.close ⟨err, rl, l⟩)) := by
  have hd2 := (hd.alloc (.cells #[.int .i64 kind, .int .i64 lsn, .slice A n k] 32)).alloc (.cells #[.int .i64 err, .int .i64 rl, .slice A' n' k'] 34)
  have hr2 := (hr.alloc (.cells #[.int .i64 kind, .int .i64 lsn, .slice A n k] 32)).alloc (.cells #[.int .i64 err, .int .i64 rl, .slice A' n' k'] 34)
  clear hd hr
  have hb := boxed h (.int .i64 kind) (.int .i64 lsn) (.slice A n k) (.int .i64 err) (.int .i64 rl) (.slice A' n' k')
  clear h
  subst z
  go_enter Try.func17, Try.ntmps17
  go_upto_region 1 with (fail)
  generalize (w.alloc _).alloc _ = w2 at hb hd2 hr2 ⊢
  generalize w.heap.size = a at hb ⊢
  generalize a + 1 = b at hb ⊢
  have p0 := hb.p.cell 0; have p1 := hb.p.cell 1; have p2 := hb.p.cell 2; have q0 := hb.q.cell 0; have q1 := hb.q.cell 1; have q2 := hb.q.cell 2
  have s0 := hb.st.blk.cell 0; have s1 := hb.st.blk.cell 1; have s2 := hb.st.blk.cell 2; have s3 := hb.st.blk.cell 3; have s4 := hb.st.blk.cell 4; have s5 := hb.st.blk.cell 5
  have s6 := hb.st.blk.cell 6; have f6 := hb.st.blk.frozen 6; have s7 := hb.st.blk.cell 7
  simp [cells] at p0 p1 p2 q0 q1 q2 s0 s1 s2 s3 s4 s5 s6 s7
  have HB := hide hb
  clear hb
  have HD := hide hd2; have HR := hide hr2; have HI := hide hi
  clear hd2 hr2 hi
  go_wp2_with (first | (go_at_call 14; first | (refine (may_true _).mono ?_; rintro e w1 ⟨rfl, rfl⟩) | (refine (may_false _).mono ?_; rintro e w1 ⟨rfl, rfl⟩)) | (go_at_call 26; refine (close_any _ B s m rv vs ⟨err, rl, l⟩ A' _ k' HB.out.st).mono ?_; rintro e w1 hP; have hE := hP.ends; have HP := hide hP; clear hP; rcases hE with rfl | rfl))
  all_goals first | exact ⟨rfl, HP.out.pre HB.out.chg⟩ | (go_end0; exact HP.out.pre HB.out.chg)

set_option maxRecDepth 100000 in
set_option maxHeartbeats 1000000 in
theorem ansxn (w : World) (B s : Nat) (m : MS) (rv : Value) (vs : List Value) (kind lsn rl err : Int) (A : Option Addr) (n k : Nat) (A' : Option Addr) (n' k' : Nat) (h : St w B s m rv vs) (cl l : List Int) (hi : m.Inv) (hd : Byt w w.heap.size A n k cl) (hr : Byt w w.heap.size A' n' k' l) (z : ((n' : Int) == 0) = false) (k4 : (kind == 4) = false) (k5 : (kind == 5) = false)  :
    Calls Try.prog 17 #[.pointer (some ⟨s, 0, none⟩), .agg #[.int .i64 kind, .int .i64 lsn, .slice A n k], .agg #[.int .i64 err, .int .i64 rl, .slice A' n' k']] w (Post B s rv w none) := by
  have hd2 := (hd.alloc (.cells #[.int .i64 kind, .int .i64 lsn, .slice A n k] 32)).alloc (.cells #[.int .i64 err, .int .i64 rl, .slice A' n' k'] 34)
  have hr2 := (hr.alloc (.cells #[.int .i64 kind, .int .i64 lsn, .slice A n k] 32)).alloc (.cells #[.int .i64 err, .int .i64 rl, .slice A' n' k'] 34)
  clear hd hr
  have hb := boxed h (.int .i64 kind) (.int .i64 lsn) (.slice A n k) (.int .i64 err) (.int .i64 rl) (.slice A' n' k')
  clear h
  go_enter Try.func17, Try.ntmps17
  go_upto_region 1 with (fail)
  generalize (w.alloc _).alloc _ = w2 at hb hd2 hr2 ⊢
  generalize w.heap.size = a at hb ⊢
  generalize a + 1 = b at hb ⊢
  have p0 := hb.p.cell 0; have p1 := hb.p.cell 1; have p2 := hb.p.cell 2; have q0 := hb.q.cell 0; have q1 := hb.q.cell 1; have q2 := hb.q.cell 2
  have s0 := hb.st.blk.cell 0; have s1 := hb.st.blk.cell 1; have s2 := hb.st.blk.cell 2; have s3 := hb.st.blk.cell 3; have s4 := hb.st.blk.cell 4; have s5 := hb.st.blk.cell 5
  have s6 := hb.st.blk.cell 6; have f6 := hb.st.blk.frozen 6; have s7 := hb.st.blk.cell 7
  simp [cells] at p0 p1 p2 q0 q1 q2 s0 s1 s2 s3 s4 s5 s6 s7
  have HB := hide hb
  clear hb
  have HD := hide hd2; have HR := hide hr2; have HI := hide hi
  clear hd2 hr2 hi
  go_wp2_with (first | (go_at_call 14; first | (refine (may_true _).mono ?_; rintro e w1 ⟨rfl, rfl⟩) | (refine (may_false _).mono ?_; rintro e w1 ⟨rfl, rfl⟩)))
  exact ⟨rfl, .none HB.out.chg⟩

theorem answer_any (w : World) (B s : Nat) (m : MS) (rv : Value) (vs : List Value) (c : CM) (r : RM) (A : Option Addr) (n k : Nat) (A' : Option Addr) (n' k' : Nat) (h : St w B s m rv vs) (hi : m.Inv)
    (hd : Byt w w.heap.size A n k c.data) (hr : Byt w w.heap.size A' n' k' r.data) :
    Calls Try.prog 17 #[.pointer (some ⟨s, 0, none⟩), callV c A n k, resV r A' n' k'] w (Post B s rv w (m.answer c r)) := by
  obtain ⟨err, rl, l⟩ := r
  obtain ⟨kind, lsn, cl⟩ := c
  have hl : l.length = n' := by have := hr.1.1; simpa using this
  unfold callV resV MS.answer MS.reads
  simp only at hd hr ⊢
  by_cases z : n' = 0
  · have hnil : l = [] := List.eq_nil_of_length_eq_zero (by omega)
    rw [if_pos (.inl hnil)]
    by_cases k4 : kind = 4
    · rw [if_pos (.inl k4)]; rw [k4]; exact ans4z w B s m rv vs 4 lsn rl err A n k A' n' k' h cl l hi hd hr z rfl
    · by_cases k5 : kind = 5
      · rw [if_pos (.inr k5)]; rw [k5]; exact ans5z w B s m rv vs 5 lsn rl err A n k A' n' k' h cl l hi hd hr z rfl
      · rw [if_neg (fun q => q.elim k4 k5)]
        by_cases k1 : kind = 1
        · rw [if_pos (.inl k1)]; rw [k1]; exact ans1z w B s m rv vs 1 lsn rl err A n k A' n' k' h cl l hi hd hr z rfl
        · by_cases k2 : kind = 2
          · rw [if_pos (.inr k2)]; rw [k2]; exact ans2z w B s m rv vs 2 lsn rl err A n k A' n' k' h cl l hi hd hr z rfl
          · rw [if_neg (fun q => q.elim k1 k2)]
            by_cases k6 : kind = 6
            · rw [if_pos k6]; rw [k6]; exact ans6z w B s m rv vs 6 lsn rl err A n k A' n' k' h cl l hi hd hr z rfl
            · rw [if_neg k6]
              by_cases k3 : kind = 3
              · rw [if_pos k3]; exact ans3z w B s m rv vs kind lsn rl err A n k A' n' k' h cl l hi hd hr z k3
              · rw [if_neg k3]
                exact ansxz w B s m rv vs kind lsn rl err A n k A' n' k' h cl l hi hd hr z (by simpa using k4) (by simpa using k5) (by simpa using k1) (by simpa using k2) (by simpa using k6) (by simpa using k3)
  · have hnil : ¬ l = [] := fun q => z (by rw [← hl, q]; rfl)
    have z' : ((n' : Int) == 0) = false := by simpa using z
    by_cases k4 : kind = 4
    · by_cases e0 : err = 0
      · rw [if_pos (.inr ⟨.inl k4, e0⟩), if_pos (.inl k4), k4, e0]; exact ans4n w B s m rv vs 4 lsn rl 0 A n k A' n' k' h cl l hi hd hr z' rfl rfl
      · rw [if_neg (fun q => q.elim hnil (fun q => e0 q.2))]; exact ans4e w B s m rv vs kind lsn rl err A n k A' n' k' h cl l hi hd hr z' k4 (by simpa using e0)
    · by_cases k5 : kind = 5
      · by_cases e0 : err = 0
        · rw [if_pos (.inr ⟨.inr k5, e0⟩), if_pos (.inr k5), k5, e0]; exact ans5n w B s m rv vs 5 lsn rl 0 A n k A' n' k' h cl l hi hd hr z' rfl rfl
        · rw [if_neg (fun q => q.elim hnil (fun q => e0 q.2))]; exact ans5e w B s m rv vs kind lsn rl err A n k A' n' k' h cl l hi hd hr z' k5 (by simpa using e0)
      · rw [if_neg (fun q => q.elim hnil (fun q => q.1.elim k4 k5))]
        exact ansxn w B s m rv vs kind lsn rl err A n k A' n' k' h cl l hi hd hr z' (by simpa using k4) (by simpa using k5)
end Go.Proofs.Ytemllidcnamlmaa
