/- The walks of append, truncate, answer. -/
import Derived.Test.YtemllidcnamlmaaWe
namespace Go.Proofs.Ytemllidcnamlmaa
open Go.RowKit

/-- A Post behind a Post: what a step leaves, changed further in the state's own block. -/
theorem Post.more {B s : Nat} {rv rv1 : Value} {vs1 : List Value} {w w2 w1 w' : World} {m' : MS} (hc : Chg w w2 s rv) (hc1 : Chg w2 w1 s rv) (hr : ∀ k, rv1.ownBlock = some k → some k = rv.ownBlock ∨ w2.heap.size ≤ k)
    (hc2 : Chg w1 w' s rv1) (hs : St w' B s m' rv1 vs1) : Post B s rv w (some m') retUnit w' :=
  .go ((hc.trans hc1 (fun _ hk => .inl hk.symm)).trans hc2 (fun k hk => (hr k hk).imp id (fun h => Nat.le_trans hc.size h))) rfl rfl hs (fun k hk => (hr k hk).imp id (fun h => Nat.le_trans hc.size h))

set_option maxRecDepth 100000 in
set_option maxHeartbeats 1000000 in
theorem app0a (w : World) (B s : Nat) (m : MS) (rv : Value) (vs : List Value) (kind lsn rl err : Int) (A : Option Addr) (n k : Nat) (A' : Option Addr) (n' k' : Nat) (h : St w B s m rv vs) (cl : List Int) (hi : m.Inv) (hd : Byt w w.heap.size A n k cl) (e0 : err = 0) (ek : kind = 2) :
    Calls Try.prog 24 #[.pointer (some ⟨s, 0, none⟩), .agg #[.int .i64 kind, .int .i64 lsn, .slice A n k], .agg #[.int .i64 err, .int .i64 rl, .slice A' n' k']] w (Post B s rv w (m.add rl cl)) := by
  have hd2 := (hd.alloc (.cells #[.int .i64 kind, .int .i64 lsn, .slice A n k] 32)).alloc (.cells #[.int .i64 err, .int .i64 rl, .slice A' n' k'] 34)
  clear hd
  have hb := boxed h (.int .i64 kind) (.int .i64 lsn) (.slice A n k) (.int .i64 err) (.int .i64 rl) (.slice A' n' k')
  clear h
  subst e0 ek
  go_enter Try.func24, Try.ntmps24
  go_upto_region 1 with (fail)
  generalize (w.alloc _).alloc _ = w2 at hb hd2 ⊢
  generalize w.heap.size = a at hb ⊢
  generalize a + 1 = b at hb ⊢
  have p0 := hb.p.cell 0; have p1 := hb.p.cell 1; have p2 := hb.p.cell 2; have q0 := hb.q.cell 0; have q1 := hb.q.cell 1; have q2 := hb.q.cell 2
  have s0 := hb.st.blk.cell 0; have s1 := hb.st.blk.cell 1; have s2 := hb.st.blk.cell 2; have s3 := hb.st.blk.cell 3; have s4 := hb.st.blk.cell 4; have s5 := hb.st.blk.cell 5
  have s6 := hb.st.blk.cell 6; have f6 := hb.st.blk.frozen 6; have s7 := hb.st.blk.cell 7
  simp [cells] at p0 p1 p2 q0 q1 q2 s0 s1 s2 s3 s4 s5 s6 s7
  have HB := hide hb
  clear hb
  have HD := hide hd2; have HI := hide hi
  clear hd2 hi
  go_wp2_with (first | (go_at_call 14; first | (refine (may_true _).mono ?_; rintro e w1 ⟨rfl, rfl⟩) | (refine (may_false _).mono ?_; rintro e w1 ⟨rfl, rfl⟩)))
  refine WS.start 13 (by kernel_rfl) (by kernel_rfl) ?_
  simp only [List.take_succ_cons, List.take_zero, List.drop_succ_cons, List.drop_zero]
  iterate 4 (refine WS.step (fun K hK => ?_); go_simp; refine hK _ ?_; clear hK K)
  iterate 8 (refine WS.pass (by kernel_rfl) (by kernel_rfl) ?_)
  iterate 1 (refine WS.step (fun K hK => ?_); go_simp; refine hK _ ?_; clear hK K)
  refine WS.nil ?_
  go_wp2_with (first | (go_at_call 14; first | (refine (may_true _).mono ?_; rintro e w1 ⟨rfl, rfl⟩) | (refine (may_false _).mono ?_; rintro e w1 ⟨rfl, rfl⟩)) | (go_at_call 13; refine (add_any _ B s m rv vs _ A n k cl HB.out.st.drew HI.out HD.out).mono ?_; rintro e w1 hP; have hE := hP.ends; have HP := hide hP; clear hP; rcases hE with rfl | rfl))
  all_goals first | exact ⟨rfl, HP.out.pre HB.out.chg.drew⟩ | (go_end0; exact HP.out.pre HB.out.chg.drew)

set_option maxRecDepth 100000 in
set_option maxHeartbeats 1000000 in
theorem app0b (w : World) (B s : Nat) (m : MS) (rv : Value) (vs : List Value) (kind lsn rl err : Int) (A : Option Addr) (n k : Nat) (A' : Option Addr) (n' k' : Nat) (h : St w B s m rv vs) (cl : List Int) (hi : m.Inv) (hd : Byt w w.heap.size A n k cl) (e0 : err = 0) (ek : (kind == 2) = false) (e2 : rl < m.limit) :
    Calls Try.prog 24 #[.pointer (some ⟨s, 0, none⟩), .agg #[.int .i64 kind, .int .i64 lsn, .slice A n k], .agg #[.int .i64 err, .int .i64 rl, .slice A' n' k']] w (Post B s rv w (m.add rl cl)) := by
  have hd2 := (hd.alloc (.cells #[.int .i64 kind, .int .i64 lsn, .slice A n k] 32)).alloc (.cells #[.int .i64 err, .int .i64 rl, .slice A' n' k'] 34)
  clear hd
  have hb := boxed h (.int .i64 kind) (.int .i64 lsn) (.slice A n k) (.int .i64 err) (.int .i64 rl) (.slice A' n' k')
  clear h
  subst e0
  go_enter Try.func24, Try.ntmps24
  go_upto_region 1 with (fail)
  generalize (w.alloc _).alloc _ = w2 at hb hd2 ⊢
  generalize w.heap.size = a at hb ⊢
  generalize a + 1 = b at hb ⊢
  have p0 := hb.p.cell 0; have p1 := hb.p.cell 1; have p2 := hb.p.cell 2; have q0 := hb.q.cell 0; have q1 := hb.q.cell 1; have q2 := hb.q.cell 2
  have s0 := hb.st.blk.cell 0; have s1 := hb.st.blk.cell 1; have s2 := hb.st.blk.cell 2; have s3 := hb.st.blk.cell 3; have s4 := hb.st.blk.cell 4; have s5 := hb.st.blk.cell 5
  have s6 := hb.st.blk.cell 6; have f6 := hb.st.blk.frozen 6; have s7 := hb.st.blk.cell 7
  simp [cells] at p0 p1 p2 q0 q1 q2 s0 s1 s2 s3 s4 s5 s6 s7
  have HB := hide hb
  clear hb
  have HD := hide hd2; have HI := hide hi
  clear hd2 hi
  go_wp2_with (first | (go_at_call 14; first | (refine (may_true _).mono ?_; rintro e w1 ⟨rfl, rfl⟩) | (refine (may_false _).mono ?_; rintro e w1 ⟨rfl, rfl⟩)))
  refine WS.start 13 (by kernel_rfl) (by kernel_rfl) ?_
  simp only [List.take_succ_cons, List.take_zero, List.drop_succ_cons, List.drop_zero]
  iterate 13 (refine WS.step (fun K hK => ?_); go_simp; refine hK _ ?_; clear hK K)
  refine WS.nil ?_
  go_wp2_with (first | (go_at_call 14; first | (refine (may_true _).mono ?_; rintro e w1 ⟨rfl, rfl⟩) | (refine (may_false _).mono ?_; rintro e w1 ⟨rfl, rfl⟩)) | (go_at_call 13; refine (add_any _ B s m rv vs _ A n k cl HB.out.st.drew HI.out HD.out).mono ?_; rintro e w1 hP; have hE := hP.ends; have HP := hide hP; clear hP; rcases hE with rfl | rfl))
  all_goals first | exact ⟨rfl, HP.out.pre HB.out.chg.drew⟩ | (go_end0; exact HP.out.pre HB.out.chg.drew)

set_option maxRecDepth 100000 in
set_option maxHeartbeats 1000000 in
theorem app0c (w : World) (B s : Nat) (m : MS) (rv : Value) (vs : List Value) (kind lsn rl err : Int) (A : Option Addr) (n k : Nat) (A' : Option Addr) (n' k' : Nat) (h : St w B s m rv vs) (e0 : err = 0) (ek : (kind == 2) = false) (e2 : decide (rl < m.limit) = false) :
    Calls Try.prog 24 #[.pointer (some ⟨s, 0, none⟩), .agg #[.int .i64 kind, .int .i64 lsn, .slice A n k], .agg #[.int .i64 err, .int .i64 rl, .slice A' n' k']] w (Post B s rv w none) := by
  have hb := boxed h (.int .i64 kind) (.int .i64 lsn) (.slice A n k) (.int .i64 err) (.int .i64 rl) (.slice A' n' k')
  clear h
  subst e0
  go_enter Try.func24, Try.ntmps24
  go_upto_region 1 with (fail)
  generalize (w.alloc _).alloc _ = w2 at hb ⊢
  generalize w.heap.size = a at hb ⊢
  generalize a + 1 = b at hb ⊢
  have p0 := hb.p.cell 0; have p1 := hb.p.cell 1; have p2 := hb.p.cell 2; have q0 := hb.q.cell 0; have q1 := hb.q.cell 1; have q2 := hb.q.cell 2
  have s0 := hb.st.blk.cell 0; have s1 := hb.st.blk.cell 1; have s2 := hb.st.blk.cell 2; have s3 := hb.st.blk.cell 3; have s4 := hb.st.blk.cell 4; have s5 := hb.st.blk.cell 5
  have s6 := hb.st.blk.cell 6; have f6 := hb.st.blk.frozen 6; have s7 := hb.st.blk.cell 7
  simp [cells] at p0 p1 p2 q0 q1 q2 s0 s1 s2 s3 s4 s5 s6 s7
  have HB := hide hb
  clear hb
  go_wp2_with (first | (go_at_call 14; first | (refine (may_true _).mono ?_; rintro e w1 ⟨rfl, rfl⟩) | (refine (may_false _).mono ?_; rintro e w1 ⟨rfl, rfl⟩)))
  refine WS.start 13 (by kernel_rfl) (by kernel_rfl) ?_
  simp only [List.take_succ_cons, List.take_zero, List.drop_succ_cons, List.drop_zero]
  iterate 13 (refine WS.step (fun K hK => ?_); go_simp; refine hK _ ?_; clear hK K)
  refine WS.nil ?_
  go_wp2_with (first | (go_at_call 14; first | (refine (may_true _).mono ?_; rintro e w1 ⟨rfl, rfl⟩) | (refine (may_false _).mono ?_; rintro e w1 ⟨rfl, rfl⟩)))
  exact ⟨rfl, .none HB.out.chg.drew⟩

set_option maxRecDepth 100000 in
set_option maxHeartbeats 1000000 in
theorem app40a (w : World) (B s : Nat) (m : MS) (rv : Value) (vs : List Value) (kind lsn rl err : Int) (A : Option Addr) (n k : Nat) (A' : Option Addr) (n' k' : Nat) (h : St w B s m rv vs) (e0 : err = 40) (e1 : rl = 0) :
    Calls Try.prog 24 #[.pointer (some ⟨s, 0, none⟩), .agg #[.int .i64 kind, .int .i64 lsn, .slice A n k], .agg #[.int .i64 err, .int .i64 rl, .slice A' n' k']] w (Post B s rv w (some m.fail)) := by
  have hb := boxed h (.int .i64 kind) (.int .i64 lsn) (.slice A n k) (.int .i64 err) (.int .i64 rl) (.slice A' n' k')
  clear h
  subst e0 e1
  go_enter Try.func24, Try.ntmps24
  go_upto_region 1 with (fail)
  generalize (w.alloc _).alloc _ = w2 at hb ⊢
  generalize w.heap.size = a at hb ⊢
  generalize a + 1 = b at hb ⊢
  have p0 := hb.p.cell 0; have p1 := hb.p.cell 1; have p2 := hb.p.cell 2; have q0 := hb.q.cell 0; have q1 := hb.q.cell 1; have q2 := hb.q.cell 2
  have s0 := hb.st.blk.cell 0; have s1 := hb.st.blk.cell 1; have s2 := hb.st.blk.cell 2; have s3 := hb.st.blk.cell 3; have s4 := hb.st.blk.cell 4; have s5 := hb.st.blk.cell 5
  have s6 := hb.st.blk.cell 6; have f6 := hb.st.blk.frozen 6; have s7 := hb.st.blk.cell 7
  simp [cells] at p0 p1 p2 q0 q1 q2 s0 s1 s2 s3 s4 s5 s6 s7
  have HB := hide hb
  clear hb
  go_wp2_with (first | (go_at_call 14; first | (refine (may_true _).mono ?_; rintro e w1 ⟨rfl, rfl⟩) | (refine (may_false _).mono ?_; rintro e w1 ⟨rfl, rfl⟩)))
  go_end0
  exact .same (HB.out.chg.setCell (p := ⟨s, 6, none⟩) (.inl rfl) _) (HB.out.st.set 6 _ (by simp [cells, MS.fail]) rfl)

set_option maxRecDepth 100000 in
set_option maxHeartbeats 1000000 in
theorem app40b (w : World) (B s : Nat) (m : MS) (rv : Value) (vs : List Value) (kind lsn rl err : Int) (A : Option Addr) (n k : Nat) (A' : Option Addr) (n' k' : Nat) (h : St w B s m rv vs) (cl : List Int) (hi : m.Inv) (hd : Byt w w.heap.size A n k cl) (e0 : err = 40) (e1 : (rl == 0) = false) (hA : m.add rl cl = none) :
    Calls Try.prog 24 #[.pointer (some ⟨s, 0, none⟩), .agg #[.int .i64 kind, .int .i64 lsn, .slice A n k], .agg #[.int .i64 err, .int .i64 rl, .slice A' n' k']] w (Post B s rv w none) := by
  have HA := hide hA
  clear hA
  have hd2 := (hd.alloc (.cells #[.int .i64 kind, .int .i64 lsn, .slice A n k] 32)).alloc (.cells #[.int .i64 err, .int .i64 rl, .slice A' n' k'] 34)
  clear hd
  have hb := boxed h (.int .i64 kind) (.int .i64 lsn) (.slice A n k) (.int .i64 err) (.int .i64 rl) (.slice A' n' k')
  clear h
  subst e0
  go_enter Try.func24, Try.ntmps24
  go_upto_region 1 with (fail)
  generalize (w.alloc _).alloc _ = w2 at hb hd2 ⊢
  generalize w.heap.size = a at hb ⊢
  generalize a + 1 = b at hb ⊢
  have p0 := hb.p.cell 0; have p1 := hb.p.cell 1; have p2 := hb.p.cell 2; have q0 := hb.q.cell 0; have q1 := hb.q.cell 1; have q2 := hb.q.cell 2
  have s0 := hb.st.blk.cell 0; have s1 := hb.st.blk.cell 1; have s2 := hb.st.blk.cell 2; have s3 := hb.st.blk.cell 3; have s4 := hb.st.blk.cell 4; have s5 := hb.st.blk.cell 5
  have s6 := hb.st.blk.cell 6; have f6 := hb.st.blk.frozen 6; have s7 := hb.st.blk.cell 7
  simp [cells] at p0 p1 p2 q0 q1 q2 s0 s1 s2 s3 s4 s5 s6 s7
  have HB := hide hb
  clear hb
  have HD := hide hd2; have HI := hide hi
  clear hd2 hi
  go_wp2_with (first | (go_at_call 14; first | (refine (may_true _).mono ?_; rintro e w1 ⟨rfl, rfl⟩) | (refine (may_false _).mono ?_; rintro e w1 ⟨rfl, rfl⟩)) | (go_at_call 13; refine (add_any _ B s m rv vs _ A n k cl HB.out.st HI.out HD.out).mono ?_; rintro e w1 hP; obtain rfl := hP.stops HA.out; have HP := hide hP; clear hP))
  exact ⟨rfl, .none (HB.out.chg.trans HP.out.chg (fun _ hk => .inl hk.symm))⟩

set_option maxRecDepth 100000 in
set_option maxHeartbeats 1000000 in
theorem app40cy (w : World) (B s : Nat) (m : MS) (rv : Value) (vs : List Value) (kind lsn rl err : Int) (A : Option Addr) (n k : Nat) (A' : Option Addr) (n' k' : Nat) (h : St w B s m rv vs) (cl : List Int) (hi : m.Inv) (hd : Byt w w.heap.size A n k cl) (e0 : err = 40) (e1 : (rl == 0) = false) (m1 : MS) (hA : m.add rl cl = some m1) (em : rl < m1.limit) (e2 : m1.durable ≤ rl) :
    Calls Try.prog 24 #[.pointer (some ⟨s, 0, none⟩), .agg #[.int .i64 kind, .int .i64 lsn, .slice A n k], .agg #[.int .i64 err, .int .i64 rl, .slice A' n' k']] w (Post B s rv w (some { m1 with limit := rl })) := by
  have HA := hide hA
  clear hA
  have hd2 := (hd.alloc (.cells #[.int .i64 kind, .int .i64 lsn, .slice A n k] 32)).alloc (.cells #[.int .i64 err, .int .i64 rl, .slice A' n' k'] 34)
  clear hd
  have hb := boxed h (.int .i64 kind) (.int .i64 lsn) (.slice A n k) (.int .i64 err) (.int .i64 rl) (.slice A' n' k')
  clear h
  subst e0
  go_enter Try.func24, Try.ntmps24
  go_upto_region 1 with (fail)
  generalize (w.alloc _).alloc _ = w2 at hb hd2 ⊢
  generalize w.heap.size = a at hb ⊢
  generalize a + 1 = b at hb ⊢
  have p0 := hb.p.cell 0; have p1 := hb.p.cell 1; have p2 := hb.p.cell 2; have q0 := hb.q.cell 0; have q1 := hb.q.cell 1; have q2 := hb.q.cell 2
  have s0 := hb.st.blk.cell 0; have s1 := hb.st.blk.cell 1; have s2 := hb.st.blk.cell 2; have s3 := hb.st.blk.cell 3; have s4 := hb.st.blk.cell 4; have s5 := hb.st.blk.cell 5
  have s6 := hb.st.blk.cell 6; have f6 := hb.st.blk.frozen 6; have s7 := hb.st.blk.cell 7
  simp [cells] at p0 p1 p2 q0 q1 q2 s0 s1 s2 s3 s4 s5 s6 s7
  have HB := hide hb
  clear hb
  have HD := hide hd2; have HI := hide hi
  clear hd2 hi
  go_wp2_with (first | (go_at_call 14; first | (refine (may_true _).mono ?_; rintro e w1 ⟨rfl, rfl⟩) | (refine (may_false _).mono ?_; rintro e w1 ⟨rfl, rfl⟩)) | (go_at_call 13; refine (add_any _ B s m rv vs _ A n k cl HB.out.st HI.out HD.out).mono ?_; rintro e w1 hP; obtain ⟨rfl, rv1, vs1, h1, hr1⟩ := hP.goes _ HA.out; have c1 := hP.chg; have u1 := h1.blk.cell 2; have u2 := h1.blk.cell 4; have u3 := h1.blk.frozen 4; have u4 := (c1.blk HB.out.st HB.out.q (by decide) (by decide)).cell 1; simp [cells] at u1 u2 u4; have H1 := hide h1; have HR := hide hr1; have HP := hide hP; clear h1 hr1 hP c1))
  refine WS.start 12 (by kernel_rfl) (by kernel_rfl) ?_
  simp only [List.take_succ_cons, List.take_zero, List.drop_succ_cons, List.drop_zero]
  iterate 12 (refine WS.step (fun K hK => ?_); go_simp; refine hK _ ?_; clear hK K)
  refine WS.nil ?_
  go_wp2
  have H2 := (H1.out.set 4 (.int .i64 rl) (m' := { m1 with limit := rl }) (by simp [cells]) rfl).drew
  have C2 := (((Chg.refl w1 s rv1).setCell (p := ⟨s, 4, none⟩) (.inl rfl) (.int .i64 rl)).drew)
  generalize (w1.setCell _ _).drew = w3 at H2 C2 ⊢
  have x2 := H2.blk.cell 2; have x4 := H2.blk.cell 4
  simp [cells] at x2 x4
  have HH := hide H2; have CC := hide C2
  clear H2 C2
  refine WS.start 11 (by kernel_rfl) (by kernel_rfl) ?_
  simp only [List.take_succ_cons, List.take_zero, List.drop_succ_cons, List.drop_zero]
  iterate 11 (refine WS.step (fun K hK => ?_); go_simp; refine hK _ ?_; clear hK K)
  refine WS.nil ?_
  go_wp2_with (first | (go_at_call 14; first | (refine (may_true _).mono ?_; rintro e w1 ⟨rfl, rfl⟩) | (refine (may_false _).mono ?_; rintro e w1 ⟨rfl, rfl⟩)))
  go_end0
  exact .more HB.out.chg HP.out.chg HR.out CC.out.drew HH.out.drew

set_option maxRecDepth 100000 in
set_option maxHeartbeats 1000000 in
theorem app40cn (w : World) (B s : Nat) (m : MS) (rv : Value) (vs : List Value) (kind lsn rl err : Int) (A : Option Addr) (n k : Nat) (A' : Option Addr) (n' k' : Nat) (h : St w B s m rv vs) (cl : List Int) (hi : m.Inv) (hd : Byt w w.heap.size A n k cl) (e0 : err = 40) (e1 : (rl == 0) = false) (m1 : MS) (hA : m.add rl cl = some m1) (em : rl < m1.limit) (e2 : decide (m1.durable ≤ rl) = false) :
    Calls Try.prog 24 #[.pointer (some ⟨s, 0, none⟩), .agg #[.int .i64 kind, .int .i64 lsn, .slice A n k], .agg #[.int .i64 err, .int .i64 rl, .slice A' n' k']] w (Post B s rv w none) := by
  have HA := hide hA
  clear hA
  have hd2 := (hd.alloc (.cells #[.int .i64 kind, .int .i64 lsn, .slice A n k] 32)).alloc (.cells #[.int .i64 err, .int .i64 rl, .slice A' n' k'] 34)
  clear hd
  have hb := boxed h (.int .i64 kind) (.int .i64 lsn) (.slice A n k) (.int .i64 err) (.int .i64 rl) (.slice A' n' k')
  clear h
  subst e0
  go_enter Try.func24, Try.ntmps24
  go_upto_region 1 with (fail)
  generalize (w.alloc _).alloc _ = w2 at hb hd2 ⊢
  generalize w.heap.size = a at hb ⊢
  generalize a + 1 = b at hb ⊢
  have p0 := hb.p.cell 0; have p1 := hb.p.cell 1; have p2 := hb.p.cell 2; have q0 := hb.q.cell 0; have q1 := hb.q.cell 1; have q2 := hb.q.cell 2
  have s0 := hb.st.blk.cell 0; have s1 := hb.st.blk.cell 1; have s2 := hb.st.blk.cell 2; have s3 := hb.st.blk.cell 3; have s4 := hb.st.blk.cell 4; have s5 := hb.st.blk.cell 5
  have s6 := hb.st.blk.cell 6; have f6 := hb.st.blk.frozen 6; have s7 := hb.st.blk.cell 7
  simp [cells] at p0 p1 p2 q0 q1 q2 s0 s1 s2 s3 s4 s5 s6 s7
  have HB := hide hb
  clear hb
  have HD := hide hd2; have HI := hide hi
  clear hd2 hi
  go_wp2_with (first | (go_at_call 14; first | (refine (may_true _).mono ?_; rintro e w1 ⟨rfl, rfl⟩) | (refine (may_false _).mono ?_; rintro e w1 ⟨rfl, rfl⟩)) | (go_at_call 13; refine (add_any _ B s m rv vs _ A n k cl HB.out.st HI.out HD.out).mono ?_; rintro e w1 hP; obtain ⟨rfl, rv1, vs1, h1, hr1⟩ := hP.goes _ HA.out; have c1 := hP.chg; have u1 := h1.blk.cell 2; have u2 := h1.blk.cell 4; have u3 := h1.blk.frozen 4; have u4 := (c1.blk HB.out.st HB.out.q (by decide) (by decide)).cell 1; simp [cells] at u1 u2 u4; have H1 := hide h1; have HR := hide hr1; have HP := hide hP; clear h1 hr1 hP c1))
  refine WS.start 12 (by kernel_rfl) (by kernel_rfl) ?_
  simp only [List.take_succ_cons, List.take_zero, List.drop_succ_cons, List.drop_zero]
  iterate 12 (refine WS.step (fun K hK => ?_); go_simp; refine hK _ ?_; clear hK K)
  refine WS.nil ?_
  go_wp2
  have H2 := (H1.out.set 4 (.int .i64 rl) (m' := { m1 with limit := rl }) (by simp [cells]) rfl).drew
  have C2 := (((Chg.refl w1 s rv1).setCell (p := ⟨s, 4, none⟩) (.inl rfl) (.int .i64 rl)).drew)
  generalize (w1.setCell _ _).drew = w3 at H2 C2 ⊢
  have x2 := H2.blk.cell 2; have x4 := H2.blk.cell 4
  simp [cells] at x2 x4
  have HH := hide H2; have CC := hide C2
  clear H2 C2
  refine WS.start 11 (by kernel_rfl) (by kernel_rfl) ?_
  simp only [List.take_succ_cons, List.take_zero, List.drop_succ_cons, List.drop_zero]
  iterate 11 (refine WS.step (fun K hK => ?_); go_simp; refine hK _ ?_; clear hK K)
  refine WS.nil ?_
  go_wp2_with (first | (go_at_call 14; first | (refine (may_true _).mono ?_; rintro e w1 ⟨rfl, rfl⟩) | (refine (may_false _).mono ?_; rintro e w1 ⟨rfl, rfl⟩)))
  exact ⟨rfl, .none (((HB.out.chg.trans HP.out.chg (fun _ hk => .inl hk.symm)).trans CC.out (fun k hk => (HR.out k hk).imp id (fun h => Nat.le_trans HB.out.chg.size h))).drew)⟩

set_option maxRecDepth 100000 in
set_option maxHeartbeats 1000000 in
theorem app40dy (w : World) (B s : Nat) (m : MS) (rv : Value) (vs : List Value) (kind lsn rl err : Int) (A : Option Addr) (n k : Nat) (A' : Option Addr) (n' k' : Nat) (h : St w B s m rv vs) (cl : List Int) (hi : m.Inv) (hd : Byt w w.heap.size A n k cl) (e0 : err = 40) (e1 : (rl == 0) = false) (m1 : MS) (hA : m.add rl cl = some m1) (em : m1.limit ≤ rl) (e2 : m1.durable ≤ m1.limit) :
    Calls Try.prog 24 #[.pointer (some ⟨s, 0, none⟩), .agg #[.int .i64 kind, .int .i64 lsn, .slice A n k], .agg #[.int .i64 err, .int .i64 rl, .slice A' n' k']] w (Post B s rv w (some { m1 with limit := m1.limit })) := by
  have HA := hide hA
  clear hA
  have hd2 := (hd.alloc (.cells #[.int .i64 kind, .int .i64 lsn, .slice A n k] 32)).alloc (.cells #[.int .i64 err, .int .i64 rl, .slice A' n' k'] 34)
  clear hd
  have hb := boxed h (.int .i64 kind) (.int .i64 lsn) (.slice A n k) (.int .i64 err) (.int .i64 rl) (.slice A' n' k')
  clear h
  subst e0
  go_enter Try.func24, Try.ntmps24
  go_upto_region 1 with (fail)
  generalize (w.alloc _).alloc _ = w2 at hb hd2 ⊢
  generalize w.heap.size = a at hb ⊢
  generalize a + 1 = b at hb ⊢
  have p0 := hb.p.cell 0; have p1 := hb.p.cell 1; have p2 := hb.p.cell 2; have q0 := hb.q.cell 0; have q1 := hb.q.cell 1; have q2 := hb.q.cell 2
  have s0 := hb.st.blk.cell 0; have s1 := hb.st.blk.cell 1; have s2 := hb.st.blk.cell 2; have s3 := hb.st.blk.cell 3; have s4 := hb.st.blk.cell 4; have s5 := hb.st.blk.cell 5
  have s6 := hb.st.blk.cell 6; have f6 := hb.st.blk.frozen 6; have s7 := hb.st.blk.cell 7
  simp [cells] at p0 p1 p2 q0 q1 q2 s0 s1 s2 s3 s4 s5 s6 s7
  have HB := hide hb
  clear hb
  have HD := hide hd2; have HI := hide hi
  clear hd2 hi
  go_wp2_with (first | (go_at_call 14; first | (refine (may_true _).mono ?_; rintro e w1 ⟨rfl, rfl⟩) | (refine (may_false _).mono ?_; rintro e w1 ⟨rfl, rfl⟩)) | (go_at_call 13; refine (add_any _ B s m rv vs _ A n k cl HB.out.st HI.out HD.out).mono ?_; rintro e w1 hP; obtain ⟨rfl, rv1, vs1, h1, hr1⟩ := hP.goes _ HA.out; have c1 := hP.chg; have u1 := h1.blk.cell 2; have u2 := h1.blk.cell 4; have u3 := h1.blk.frozen 4; have u4 := (c1.blk HB.out.st HB.out.q (by decide) (by decide)).cell 1; simp [cells] at u1 u2 u4; have H1 := hide h1; have HR := hide hr1; have HP := hide hP; clear h1 hr1 hP c1))
  refine WS.start 12 (by kernel_rfl) (by kernel_rfl) ?_
  simp only [List.take_succ_cons, List.take_zero, List.drop_succ_cons, List.drop_zero]
  iterate 12 (refine WS.step (fun K hK => ?_); go_simp; refine hK _ ?_; clear hK K)
  refine WS.nil ?_
  go_wp2
  have H2 := (H1.out.set 4 (.int .i64 m1.limit) (m' := { m1 with limit := m1.limit }) (by simp [cells]) rfl).drew
  have C2 := (((Chg.refl w1 s rv1).setCell (p := ⟨s, 4, none⟩) (.inl rfl) (.int .i64 m1.limit)).drew)
  generalize (w1.setCell _ _).drew = w3 at H2 C2 ⊢
  have x2 := H2.blk.cell 2; have x4 := H2.blk.cell 4
  simp [cells] at x2 x4
  have HH := hide H2; have CC := hide C2
  clear H2 C2
  refine WS.start 11 (by kernel_rfl) (by kernel_rfl) ?_
  simp only [List.take_succ_cons, List.take_zero, List.drop_succ_cons, List.drop_zero]
  iterate 11 (refine WS.step (fun K hK => ?_); go_simp; refine hK _ ?_; clear hK K)
  refine WS.nil ?_
  go_wp2_with (first | (go_at_call 14; first | (refine (may_true _).mono ?_; rintro e w1 ⟨rfl, rfl⟩) | (refine (may_false _).mono ?_; rintro e w1 ⟨rfl, rfl⟩)))
  go_end0
  exact .more HB.out.chg HP.out.chg HR.out CC.out.drew HH.out.drew

set_option maxRecDepth 100000 in
set_option maxHeartbeats 1000000 in
theorem app40dn (w : World) (B s : Nat) (m : MS) (rv : Value) (vs : List Value) (kind lsn rl err : Int) (A : Option Addr) (n k : Nat) (A' : Option Addr) (n' k' : Nat) (h : St w B s m rv vs) (cl : List Int) (hi : m.Inv) (hd : Byt w w.heap.size A n k cl) (e0 : err = 40) (e1 : (rl == 0) = false) (m1 : MS) (hA : m.add rl cl = some m1) (em : m1.limit ≤ rl) (e2 : decide (m1.durable ≤ m1.limit) = false) :
    Calls Try.prog 24 #[.pointer (some ⟨s, 0, none⟩), .agg #[.int .i64 kind, .int .i64 lsn, .slice A n k], .agg #[.int .i64 err, .int .i64 rl, .slice A' n' k']] w (Post B s rv w none) := by
  have HA := hide hA
  clear hA
  have hd2 := (hd.alloc (.cells #[.int .i64 kind, .int .i64 lsn, .slice A n k] 32)).alloc (.cells #[.int .i64 err, .int .i64 rl, .slice A' n' k'] 34)
  clear hd
  have hb := boxed h (.int .i64 kind) (.int .i64 lsn) (.slice A n k) (.int .i64 err) (.int .i64 rl) (.slice A' n' k')
  clear h
  subst e0
  go_enter Try.func24, Try.ntmps24
  go_upto_region 1 with (fail)
  generalize (w.alloc _).alloc _ = w2 at hb hd2 ⊢
  generalize w.heap.size = a at hb ⊢
  generalize a + 1 = b at hb ⊢
  have p0 := hb.p.cell 0; have p1 := hb.p.cell 1; have p2 := hb.p.cell 2; have q0 := hb.q.cell 0; have q1 := hb.q.cell 1; have q2 := hb.q.cell 2
  have s0 := hb.st.blk.cell 0; have s1 := hb.st.blk.cell 1; have s2 := hb.st.blk.cell 2; have s3 := hb.st.blk.cell 3; have s4 := hb.st.blk.cell 4; have s5 := hb.st.blk.cell 5
  have s6 := hb.st.blk.cell 6; have f6 := hb.st.blk.frozen 6; have s7 := hb.st.blk.cell 7
  simp [cells] at p0 p1 p2 q0 q1 q2 s0 s1 s2 s3 s4 s5 s6 s7
  have HB := hide hb
  clear hb
  have HD := hide hd2; have HI := hide hi
  clear hd2 hi
  go_wp2_with (first | (go_at_call 14; first | (refine (may_true _).mono ?_; rintro e w1 ⟨rfl, rfl⟩) | (refine (may_false _).mono ?_; rintro e w1 ⟨rfl, rfl⟩)) | (go_at_call 13; refine (add_any _ B s m rv vs _ A n k cl HB.out.st HI.out HD.out).mono ?_; rintro e w1 hP; obtain ⟨rfl, rv1, vs1, h1, hr1⟩ := hP.goes _ HA.out; have c1 := hP.chg; have u1 := h1.blk.cell 2; have u2 := h1.blk.cell 4; have u3 := h1.blk.frozen 4; have u4 := (c1.blk HB.out.st HB.out.q (by decide) (by decide)).cell 1; simp [cells] at u1 u2 u4; have H1 := hide h1; have HR := hide hr1; have HP := hide hP; clear h1 hr1 hP c1))
  refine WS.start 12 (by kernel_rfl) (by kernel_rfl) ?_
  simp only [List.take_succ_cons, List.take_zero, List.drop_succ_cons, List.drop_zero]
  iterate 12 (refine WS.step (fun K hK => ?_); go_simp; refine hK _ ?_; clear hK K)
  refine WS.nil ?_
  go_wp2
  have H2 := (H1.out.set 4 (.int .i64 m1.limit) (m' := { m1 with limit := m1.limit }) (by simp [cells]) rfl).drew
  have C2 := (((Chg.refl w1 s rv1).setCell (p := ⟨s, 4, none⟩) (.inl rfl) (.int .i64 m1.limit)).drew)
  generalize (w1.setCell _ _).drew = w3 at H2 C2 ⊢
  have x2 := H2.blk.cell 2; have x4 := H2.blk.cell 4
  simp [cells] at x2 x4
  have HH := hide H2; have CC := hide C2
  clear H2 C2
  refine WS.start 11 (by kernel_rfl) (by kernel_rfl) ?_
  simp only [List.take_succ_cons, List.take_zero, List.drop_succ_cons, List.drop_zero]
  iterate 11 (refine WS.step (fun K hK => ?_); go_simp; refine hK _ ?_; clear hK K)
  refine WS.nil ?_
  go_wp2_with (first | (go_at_call 14; first | (refine (may_true _).mono ?_; rintro e w1 ⟨rfl, rfl⟩) | (refine (may_false _).mono ?_; rintro e w1 ⟨rfl, rfl⟩)))
  exact ⟨rfl, .none (((HB.out.chg.trans HP.out.chg (fun _ hk => .inl hk.symm)).trans CC.out (fun k hk => (HR.out k hk).imp id (fun h => Nat.le_trans HB.out.chg.size h))).drew)⟩

set_option maxRecDepth 100000 in
set_option maxHeartbeats 1000000 in
theorem app3a (w : World) (B s : Nat) (m : MS) (rv : Value) (vs : List Value) (kind lsn rl err : Int) (A : Option Addr) (n k : Nat) (A' : Option Addr) (n' k' : Nat) (h : St w B s m rv vs) (e0 : err = 3) (sn : ¬ m.sane) :
    Calls Try.prog 24 #[.pointer (some ⟨s, 0, none⟩), .agg #[.int .i64 kind, .int .i64 lsn, .slice A n k], .agg #[.int .i64 err, .int .i64 rl, .slice A' n' k']] w (Post B s rv w none) := by
  have hb := boxed h (.int .i64 kind) (.int .i64 lsn) (.slice A n k) (.int .i64 err) (.int .i64 rl) (.slice A' n' k')
  clear h
  subst e0
  go_enter Try.func24, Try.ntmps24
  go_upto_region 1 with (fail)
  generalize (w.alloc _).alloc _ = w2 at hb ⊢
  generalize w.heap.size = a at hb ⊢
  generalize a + 1 = b at hb ⊢
  have p0 := hb.p.cell 0; have p1 := hb.p.cell 1; have p2 := hb.p.cell 2; have q0 := hb.q.cell 0; have q1 := hb.q.cell 1; have q2 := hb.q.cell 2
  have s0 := hb.st.blk.cell 0; have s1 := hb.st.blk.cell 1; have s2 := hb.st.blk.cell 2; have s3 := hb.st.blk.cell 3; have s4 := hb.st.blk.cell 4; have s5 := hb.st.blk.cell 5
  have s6 := hb.st.blk.cell 6; have f6 := hb.st.blk.frozen 6; have s7 := hb.st.blk.cell 7
  simp [cells] at p0 p1 p2 q0 q1 q2 s0 s1 s2 s3 s4 s5 s6 s7
  have SN := hide sn
  clear sn
  have HB := hide hb
  clear hb
  go_wp2_with (first | (go_at_call 21; refine (sane_false _ _ _ _ s6 s7 SN.out).mono ?_; rintro e w1 ⟨rfl, rfl⟩) | (go_at_call 14; first | (refine (may_true _).mono ?_; rintro e w1 ⟨rfl, rfl⟩) | (refine (may_false _).mono ?_; rintro e w1 ⟨rfl, rfl⟩)))
  exact ⟨rfl, .none HB.out.chg⟩

set_option maxRecDepth 100000 in
set_option maxHeartbeats 1000000 in
theorem app3b (w : World) (B s : Nat) (m : MS) (rv : Value) (vs : List Value) (kind lsn rl err : Int) (A : Option Addr) (n k : Nat) (A' : Option Addr) (n' k' : Nat) (h : St w B s m rv vs) (e0 : err = 3) (sn : m.sane) (e1 : (rl == 0) = false) :
    Calls Try.prog 24 #[.pointer (some ⟨s, 0, none⟩), .agg #[.int .i64 kind, .int .i64 lsn, .slice A n k], .agg #[.int .i64 err, .int .i64 rl, .slice A' n' k']] w (Post B s rv w none) := by
  have hb := boxed h (.int .i64 kind) (.int .i64 lsn) (.slice A n k) (.int .i64 err) (.int .i64 rl) (.slice A' n' k')
  clear h
  subst e0
  go_enter Try.func24, Try.ntmps24
  go_upto_region 1 with (fail)
  generalize (w.alloc _).alloc _ = w2 at hb ⊢
  generalize w.heap.size = a at hb ⊢
  generalize a + 1 = b at hb ⊢
  have p0 := hb.p.cell 0; have p1 := hb.p.cell 1; have p2 := hb.p.cell 2; have q0 := hb.q.cell 0; have q1 := hb.q.cell 1; have q2 := hb.q.cell 2
  have s0 := hb.st.blk.cell 0; have s1 := hb.st.blk.cell 1; have s2 := hb.st.blk.cell 2; have s3 := hb.st.blk.cell 3; have s4 := hb.st.blk.cell 4; have s5 := hb.st.blk.cell 5
  have s6 := hb.st.blk.cell 6; have f6 := hb.st.blk.frozen 6; have s7 := hb.st.blk.cell 7
  simp [cells] at p0 p1 p2 q0 q1 q2 s0 s1 s2 s3 s4 s5 s6 s7
  rw [sn.1] at s6
  rw [sn.2] at s7
  have SN := hide sn
  clear sn
  have HB := hide hb
  clear hb
  go_wp2_with (first | (go_at_call 21; refine (sane_true _ _ s6 s7).mono ?_; rintro e w1 ⟨rfl, rfl⟩) | (go_at_call 14; first | (refine (may_true _).mono ?_; rintro e w1 ⟨rfl, rfl⟩) | (refine (may_false _).mono ?_; rintro e w1 ⟨rfl, rfl⟩)))
  exact ⟨rfl, .none HB.out.chg⟩

set_option maxRecDepth 100000 in
set_option maxHeartbeats 1000000 in
theorem app3c (w : World) (B s : Nat) (m : MS) (rv : Value) (vs : List Value) (kind lsn rl err : Int) (A : Option Addr) (n k : Nat) (A' : Option Addr) (n' k' : Nat) (h : St w B s m rv vs) (e0 : err = 3) (sn : m.sane) (e1 : rl = 0) :
    Calls Try.prog 24 #[.pointer (some ⟨s, 0, none⟩), .agg #[.int .i64 kind, .int .i64 lsn, .slice A n k], .agg #[.int .i64 err, .int .i64 rl, .slice A' n' k']] w (Post B s rv w (some m)) := by
  have hb := boxed h (.int .i64 kind) (.int .i64 lsn) (.slice A n k) (.int .i64 err) (.int .i64 rl) (.slice A' n' k')
  clear h
  subst e0 e1
  go_enter Try.func24, Try.ntmps24
  go_upto_region 1 with (fail)
  generalize (w.alloc _).alloc _ = w2 at hb ⊢
  generalize w.heap.size = a at hb ⊢
  generalize a + 1 = b at hb ⊢
  have p0 := hb.p.cell 0; have p1 := hb.p.cell 1; have p2 := hb.p.cell 2; have q0 := hb.q.cell 0; have q1 := hb.q.cell 1; have q2 := hb.q.cell 2
  have s0 := hb.st.blk.cell 0; have s1 := hb.st.blk.cell 1; have s2 := hb.st.blk.cell 2; have s3 := hb.st.blk.cell 3; have s4 := hb.st.blk.cell 4; have s5 := hb.st.blk.cell 5
  have s6 := hb.st.blk.cell 6; have f6 := hb.st.blk.frozen 6; have s7 := hb.st.blk.cell 7
  simp [cells] at p0 p1 p2 q0 q1 q2 s0 s1 s2 s3 s4 s5 s6 s7
  rw [sn.1] at s6
  rw [sn.2] at s7
  have SN := hide sn
  clear sn
  have HB := hide hb
  clear hb
  go_wp2_with (first | (go_at_call 21; refine (sane_true _ _ s6 s7).mono ?_; rintro e w1 ⟨rfl, rfl⟩) | (go_at_call 14; first | (refine (may_true _).mono ?_; rintro e w1 ⟨rfl, rfl⟩) | (refine (may_false _).mono ?_; rintro e w1 ⟨rfl, rfl⟩)))
  go_end0
  exact .same HB.out.chg HB.out.st

set_option maxRecDepth 100000 in
set_option maxHeartbeats 1000000 in
theorem app44a (w : World) (B s : Nat) (m : MS) (rv : Value) (vs : List Value) (kind lsn rl err : Int) (A : Option Addr) (n k : Nat) (A' : Option Addr) (n' k' : Nat) (h : St w B s m rv vs) (e0 : err = 44) (sn : ¬ m.sane) :
    Calls Try.prog 24 #[.pointer (some ⟨s, 0, none⟩), .agg #[.int .i64 kind, .int .i64 lsn, .slice A n k], .agg #[.int .i64 err, .int .i64 rl, .slice A' n' k']] w (Post B s rv w none) := by
  have hb := boxed h (.int .i64 kind) (.int .i64 lsn) (.slice A n k) (.int .i64 err) (.int .i64 rl) (.slice A' n' k')
  clear h
  subst e0
  go_enter Try.func24, Try.ntmps24
  go_upto_region 1 with (fail)
  generalize (w.alloc _).alloc _ = w2 at hb ⊢
  generalize w.heap.size = a at hb ⊢
  generalize a + 1 = b at hb ⊢
  have p0 := hb.p.cell 0; have p1 := hb.p.cell 1; have p2 := hb.p.cell 2; have q0 := hb.q.cell 0; have q1 := hb.q.cell 1; have q2 := hb.q.cell 2
  have s0 := hb.st.blk.cell 0; have s1 := hb.st.blk.cell 1; have s2 := hb.st.blk.cell 2; have s3 := hb.st.blk.cell 3; have s4 := hb.st.blk.cell 4; have s5 := hb.st.blk.cell 5
  have s6 := hb.st.blk.cell 6; have f6 := hb.st.blk.frozen 6; have s7 := hb.st.blk.cell 7
  simp [cells] at p0 p1 p2 q0 q1 q2 s0 s1 s2 s3 s4 s5 s6 s7
  have SN := hide sn
  clear sn
  have HB := hide hb
  clear hb
  go_wp2_with (first | (go_at_call 21; refine (sane_false _ _ _ _ s6 s7 SN.out).mono ?_; rintro e w1 ⟨rfl, rfl⟩) | (go_at_call 14; first | (refine (may_true _).mono ?_; rintro e w1 ⟨rfl, rfl⟩) | (refine (may_false _).mono ?_; rintro e w1 ⟨rfl, rfl⟩)))
  exact ⟨rfl, .none HB.out.chg⟩

set_option maxRecDepth 100000 in
set_option maxHeartbeats 1000000 in
theorem app44b (w : World) (B s : Nat) (m : MS) (rv : Value) (vs : List Value) (kind lsn rl err : Int) (A : Option Addr) (n k : Nat) (A' : Option Addr) (n' k' : Nat) (h : St w B s m rv vs) (e0 : err = 44) (sn : m.sane) (e1 : (rl == 0) = false) :
    Calls Try.prog 24 #[.pointer (some ⟨s, 0, none⟩), .agg #[.int .i64 kind, .int .i64 lsn, .slice A n k], .agg #[.int .i64 err, .int .i64 rl, .slice A' n' k']] w (Post B s rv w none) := by
  have hb := boxed h (.int .i64 kind) (.int .i64 lsn) (.slice A n k) (.int .i64 err) (.int .i64 rl) (.slice A' n' k')
  clear h
  subst e0
  go_enter Try.func24, Try.ntmps24
  go_upto_region 1 with (fail)
  generalize (w.alloc _).alloc _ = w2 at hb ⊢
  generalize w.heap.size = a at hb ⊢
  generalize a + 1 = b at hb ⊢
  have p0 := hb.p.cell 0; have p1 := hb.p.cell 1; have p2 := hb.p.cell 2; have q0 := hb.q.cell 0; have q1 := hb.q.cell 1; have q2 := hb.q.cell 2
  have s0 := hb.st.blk.cell 0; have s1 := hb.st.blk.cell 1; have s2 := hb.st.blk.cell 2; have s3 := hb.st.blk.cell 3; have s4 := hb.st.blk.cell 4; have s5 := hb.st.blk.cell 5
  have s6 := hb.st.blk.cell 6; have f6 := hb.st.blk.frozen 6; have s7 := hb.st.blk.cell 7
  simp [cells] at p0 p1 p2 q0 q1 q2 s0 s1 s2 s3 s4 s5 s6 s7
  rw [sn.1] at s6
  rw [sn.2] at s7
  have SN := hide sn
  clear sn
  have HB := hide hb
  clear hb
  go_wp2_with (first | (go_at_call 21; refine (sane_true _ _ s6 s7).mono ?_; rintro e w1 ⟨rfl, rfl⟩) | (go_at_call 14; first | (refine (may_true _).mono ?_; rintro e w1 ⟨rfl, rfl⟩) | (refine (may_false _).mono ?_; rintro e w1 ⟨rfl, rfl⟩)))
  exact ⟨rfl, .none HB.out.chg⟩

set_option maxRecDepth 100000 in
set_option maxHeartbeats 1000000 in
theorem app44c (w : World) (B s : Nat) (m : MS) (rv : Value) (vs : List Value) (kind lsn rl err : Int) (A : Option Addr) (n k : Nat) (A' : Option Addr) (n' k' : Nat) (h : St w B s m rv vs) (e0 : err = 44) (sn : m.sane) (e1 : rl = 0) (e2 : (m.next == 9223372036854775807) = true) :
    Calls Try.prog 24 #[.pointer (some ⟨s, 0, none⟩), .agg #[.int .i64 kind, .int .i64 lsn, .slice A n k], .agg #[.int .i64 err, .int .i64 rl, .slice A' n' k']] w (Post B s rv w (some m)) := by
  have hb := boxed h (.int .i64 kind) (.int .i64 lsn) (.slice A n k) (.int .i64 err) (.int .i64 rl) (.slice A' n' k')
  clear h
  subst e0 e1
  go_enter Try.func24, Try.ntmps24
  go_upto_region 1 with (fail)
  generalize (w.alloc _).alloc _ = w2 at hb ⊢
  generalize w.heap.size = a at hb ⊢
  generalize a + 1 = b at hb ⊢
  have p0 := hb.p.cell 0; have p1 := hb.p.cell 1; have p2 := hb.p.cell 2; have q0 := hb.q.cell 0; have q1 := hb.q.cell 1; have q2 := hb.q.cell 2
  have s0 := hb.st.blk.cell 0; have s1 := hb.st.blk.cell 1; have s2 := hb.st.blk.cell 2; have s3 := hb.st.blk.cell 3; have s4 := hb.st.blk.cell 4; have s5 := hb.st.blk.cell 5
  have s6 := hb.st.blk.cell 6; have f6 := hb.st.blk.frozen 6; have s7 := hb.st.blk.cell 7
  simp [cells] at p0 p1 p2 q0 q1 q2 s0 s1 s2 s3 s4 s5 s6 s7
  rw [sn.1] at s6
  rw [sn.2] at s7
  have SN := hide sn
  clear sn
  have HB := hide hb
  clear hb
  go_wp2_with (first | (go_at_call 21; refine (sane_true _ _ s6 s7).mono ?_; rintro e w1 ⟨rfl, rfl⟩) | (go_at_call 14; first | (refine (may_true _).mono ?_; rintro e w1 ⟨rfl, rfl⟩) | (refine (may_false _).mono ?_; rintro e w1 ⟨rfl, rfl⟩)))
  go_end0
  exact .same HB.out.chg HB.out.st

set_option maxRecDepth 100000 in
set_option maxHeartbeats 1000000 in
theorem app44d (w : World) (B s : Nat) (m : MS) (rv : Value) (vs : List Value) (kind lsn rl err : Int) (A : Option Addr) (n k : Nat) (A' : Option Addr) (n' k' : Nat) (h : St w B s m rv vs) (e0 : err = 44) (sn : m.sane) (e1 : rl = 0) (e2 : (m.next == 9223372036854775807) = false) :
    Calls Try.prog 24 #[.pointer (some ⟨s, 0, none⟩), .agg #[.int .i64 kind, .int .i64 lsn, .slice A n k], .agg #[.int .i64 err, .int .i64 rl, .slice A' n' k']] w (Post B s rv w none) := by
  have hb := boxed h (.int .i64 kind) (.int .i64 lsn) (.slice A n k) (.int .i64 err) (.int .i64 rl) (.slice A' n' k')
  clear h
  subst e0 e1
  go_enter Try.func24, Try.ntmps24
  go_upto_region 1 with (fail)
  generalize (w.alloc _).alloc _ = w2 at hb ⊢
  generalize w.heap.size = a at hb ⊢
  generalize a + 1 = b at hb ⊢
  have p0 := hb.p.cell 0; have p1 := hb.p.cell 1; have p2 := hb.p.cell 2; have q0 := hb.q.cell 0; have q1 := hb.q.cell 1; have q2 := hb.q.cell 2
  have s0 := hb.st.blk.cell 0; have s1 := hb.st.blk.cell 1; have s2 := hb.st.blk.cell 2; have s3 := hb.st.blk.cell 3; have s4 := hb.st.blk.cell 4; have s5 := hb.st.blk.cell 5
  have s6 := hb.st.blk.cell 6; have f6 := hb.st.blk.frozen 6; have s7 := hb.st.blk.cell 7
  simp [cells] at p0 p1 p2 q0 q1 q2 s0 s1 s2 s3 s4 s5 s6 s7
  rw [sn.1] at s6
  rw [sn.2] at s7
  have SN := hide sn
  clear sn
  have HB := hide hb
  clear hb
  go_wp2_with (first | (go_at_call 21; refine (sane_true _ _ s6 s7).mono ?_; rintro e w1 ⟨rfl, rfl⟩) | (go_at_call 14; first | (refine (may_true _).mono ?_; rintro e w1 ⟨rfl, rfl⟩) | (refine (may_false _).mono ?_; rintro e w1 ⟨rfl, rfl⟩)))
  exact ⟨rfl, .none HB.out.chg⟩

set_option maxRecDepth 100000 in
set_option maxHeartbeats 1000000 in
theorem app9a (w : World) (B s : Nat) (m : MS) (rv : Value) (vs : List Value) (kind lsn rl err : Int) (A : Option Addr) (n k : Nat) (A' : Option Addr) (n' k' : Nat) (h : St w B s m rv vs) (e0 : err = 9) (sn : ¬ m.sane) :
    Calls Try.prog 24 #[.pointer (some ⟨s, 0, none⟩), .agg #[.int .i64 kind, .int .i64 lsn, .slice A n k], .agg #[.int .i64 err, .int .i64 rl, .slice A' n' k']] w (Post B s rv w none) := by
  have hb := boxed h (.int .i64 kind) (.int .i64 lsn) (.slice A n k) (.int .i64 err) (.int .i64 rl) (.slice A' n' k')
  clear h
  subst e0
  go_enter Try.func24, Try.ntmps24
  go_upto_region 1 with (fail)
  generalize (w.alloc _).alloc _ = w2 at hb ⊢
  generalize w.heap.size = a at hb ⊢
  generalize a + 1 = b at hb ⊢
  have p0 := hb.p.cell 0; have p1 := hb.p.cell 1; have p2 := hb.p.cell 2; have q0 := hb.q.cell 0; have q1 := hb.q.cell 1; have q2 := hb.q.cell 2
  have s0 := hb.st.blk.cell 0; have s1 := hb.st.blk.cell 1; have s2 := hb.st.blk.cell 2; have s3 := hb.st.blk.cell 3; have s4 := hb.st.blk.cell 4; have s5 := hb.st.blk.cell 5
  have s6 := hb.st.blk.cell 6; have f6 := hb.st.blk.frozen 6; have s7 := hb.st.blk.cell 7
  simp [cells] at p0 p1 p2 q0 q1 q2 s0 s1 s2 s3 s4 s5 s6 s7
  have SN := hide sn
  clear sn
  have HB := hide hb
  clear hb
  go_wp2_with (first | (go_at_call 21; refine (sane_false _ _ _ _ s6 s7 SN.out).mono ?_; rintro e w1 ⟨rfl, rfl⟩) | (go_at_call 14; first | (refine (may_true _).mono ?_; rintro e w1 ⟨rfl, rfl⟩) | (refine (may_false _).mono ?_; rintro e w1 ⟨rfl, rfl⟩)))
  exact ⟨rfl, .none HB.out.chg⟩

set_option maxRecDepth 100000 in
set_option maxHeartbeats 1000000 in
theorem app9b (w : World) (B s : Nat) (m : MS) (rv : Value) (vs : List Value) (kind lsn rl err : Int) (A : Option Addr) (n k : Nat) (A' : Option Addr) (n' k' : Nat) (h : St w B s m rv vs) (e0 : err = 9) (sn : m.sane) (e1 : (rl == 0) = false) :
    Calls Try.prog 24 #[.pointer (some ⟨s, 0, none⟩), .agg #[.int .i64 kind, .int .i64 lsn, .slice A n k], .agg #[.int .i64 err, .int .i64 rl, .slice A' n' k']] w (Post B s rv w none) := by
  have hb := boxed h (.int .i64 kind) (.int .i64 lsn) (.slice A n k) (.int .i64 err) (.int .i64 rl) (.slice A' n' k')
  clear h
  subst e0
  go_enter Try.func24, Try.ntmps24
  go_upto_region 1 with (fail)
  generalize (w.alloc _).alloc _ = w2 at hb ⊢
  generalize w.heap.size = a at hb ⊢
  generalize a + 1 = b at hb ⊢
  have p0 := hb.p.cell 0; have p1 := hb.p.cell 1; have p2 := hb.p.cell 2; have q0 := hb.q.cell 0; have q1 := hb.q.cell 1; have q2 := hb.q.cell 2
  have s0 := hb.st.blk.cell 0; have s1 := hb.st.blk.cell 1; have s2 := hb.st.blk.cell 2; have s3 := hb.st.blk.cell 3; have s4 := hb.st.blk.cell 4; have s5 := hb.st.blk.cell 5
  have s6 := hb.st.blk.cell 6; have f6 := hb.st.blk.frozen 6; have s7 := hb.st.blk.cell 7
  simp [cells] at p0 p1 p2 q0 q1 q2 s0 s1 s2 s3 s4 s5 s6 s7
  rw [sn.1] at s6
  rw [sn.2] at s7
  have SN := hide sn
  clear sn
  have HB := hide hb
  clear hb
  go_wp2_with (first | (go_at_call 21; refine (sane_true _ _ s6 s7).mono ?_; rintro e w1 ⟨rfl, rfl⟩) | (go_at_call 14; first | (refine (may_true _).mono ?_; rintro e w1 ⟨rfl, rfl⟩) | (refine (may_false _).mono ?_; rintro e w1 ⟨rfl, rfl⟩)))
  exact ⟨rfl, .none HB.out.chg⟩

set_option maxRecDepth 100000 in
set_option maxHeartbeats 1000000 in
theorem app9c (w : World) (B s : Nat) (m : MS) (rv : Value) (vs : List Value) (kind lsn rl err : Int) (A : Option Addr) (n k : Nat) (A' : Option Addr) (n' k' : Nat) (h : St w B s m rv vs) (e0 : err = 9) (sn : m.sane) (e1 : rl = 0) :
    Calls Try.prog 24 #[.pointer (some ⟨s, 0, none⟩), .agg #[.int .i64 kind, .int .i64 lsn, .slice A n k], .agg #[.int .i64 err, .int .i64 rl, .slice A' n' k']] w (Post B s rv w (some m)) := by
  have hb := boxed h (.int .i64 kind) (.int .i64 lsn) (.slice A n k) (.int .i64 err) (.int .i64 rl) (.slice A' n' k')
  clear h
  subst e0 e1
  go_enter Try.func24, Try.ntmps24
  go_upto_region 1 with (fail)
  generalize (w.alloc _).alloc _ = w2 at hb ⊢
  generalize w.heap.size = a at hb ⊢
  generalize a + 1 = b at hb ⊢
  have p0 := hb.p.cell 0; have p1 := hb.p.cell 1; have p2 := hb.p.cell 2; have q0 := hb.q.cell 0; have q1 := hb.q.cell 1; have q2 := hb.q.cell 2
  have s0 := hb.st.blk.cell 0; have s1 := hb.st.blk.cell 1; have s2 := hb.st.blk.cell 2; have s3 := hb.st.blk.cell 3; have s4 := hb.st.blk.cell 4; have s5 := hb.st.blk.cell 5
  have s6 := hb.st.blk.cell 6; have f6 := hb.st.blk.frozen 6; have s7 := hb.st.blk.cell 7
  simp [cells] at p0 p1 p2 q0 q1 q2 s0 s1 s2 s3 s4 s5 s6 s7
  rw [sn.1] at s6
  rw [sn.2] at s7
  have SN := hide sn
  clear sn
  have HB := hide hb
  clear hb
  go_wp2_with (first | (go_at_call 21; refine (sane_true _ _ s6 s7).mono ?_; rintro e w1 ⟨rfl, rfl⟩) | (go_at_call 14; first | (refine (may_true _).mono ?_; rintro e w1 ⟨rfl, rfl⟩) | (refine (may_false _).mono ?_; rintro e w1 ⟨rfl, rfl⟩)))
  go_end0
  exact .same HB.out.chg HB.out.st

set_option maxRecDepth 100000 in
set_option maxHeartbeats 1000000 in
theorem appx (w : World) (B s : Nat) (m : MS) (rv : Value) (vs : List Value) (kind lsn rl err : Int) (A : Option Addr) (n k : Nat) (A' : Option Addr) (n' k' : Nat) (h : St w B s m rv vs) (e0 : (err == 0) = false) (e40 : (err == 40) = false) (e3 : (err == 3) = false) (e44 : (err == 44) = false) (e9 : (err == 9) = false) :
    Calls Try.prog 24 #[.pointer (some ⟨s, 0, none⟩), .agg #[.int .i64 kind, .int .i64 lsn, .slice A n k], .agg #[.int .i64 err, .int .i64 rl, .slice A' n' k']] w (Post B s rv w none) := by
  have hb := boxed h (.int .i64 kind) (.int .i64 lsn) (.slice A n k) (.int .i64 err) (.int .i64 rl) (.slice A' n' k')
  clear h
  go_enter Try.func24, Try.ntmps24
  go_upto_region 1 with (fail)
  generalize (w.alloc _).alloc _ = w2 at hb ⊢
  generalize w.heap.size = a at hb ⊢
  generalize a + 1 = b at hb ⊢
  have p0 := hb.p.cell 0; have p1 := hb.p.cell 1; have p2 := hb.p.cell 2; have q0 := hb.q.cell 0; have q1 := hb.q.cell 1; have q2 := hb.q.cell 2
  have s0 := hb.st.blk.cell 0; have s1 := hb.st.blk.cell 1; have s2 := hb.st.blk.cell 2; have s3 := hb.st.blk.cell 3; have s4 := hb.st.blk.cell 4; have s5 := hb.st.blk.cell 5
  have s6 := hb.st.blk.cell 6; have f6 := hb.st.blk.frozen 6; have s7 := hb.st.blk.cell 7
  simp [cells] at p0 p1 p2 q0 q1 q2 s0 s1 s2 s3 s4 s5 s6 s7
  have HB := hide hb
  clear hb
  go_wp2_with (first | (go_at_call 14; first | (refine (may_true _).mono ?_; rintro e w1 ⟨rfl, rfl⟩) | (refine (may_false _).mono ?_; rintro e w1 ⟨rfl, rfl⟩)))
  exact ⟨rfl, .none HB.out.chg⟩

theorem append_any (w : World) (B s : Nat) (m : MS) (rv : Value) (vs : List Value) (c : CM) (r : RM) (A : Option Addr) (n k : Nat) (A' : Option Addr) (n' k' : Nat) (h : St w B s m rv vs) (hi : m.Inv)
    (hd : Byt w w.heap.size A n k c.data) :
    Calls Try.prog 24 #[.pointer (some ⟨s, 0, none⟩), callV c A n k, resV r A' n' k'] w (Post B s rv w (m.append c r)) := by
  obtain ⟨err, rl, l⟩ := r
  obtain ⟨kind, lsn, cl⟩ := c
  unfold callV resV MS.append
  simp only at hd ⊢
  by_cases e0 : err = 0
  · rw [if_pos e0]
    by_cases ek : kind = 2
    · rw [if_pos (.inl ek)]; exact app0a w B s m rv vs kind lsn rl err A n k A' n' k' h cl hi hd e0 ek
    · by_cases e2 : rl < m.limit
      · rw [if_pos (.inr e2)]; exact app0b w B s m rv vs kind lsn rl err A n k A' n' k' h cl hi hd e0 (by simpa using ek) e2
      · rw [if_neg (fun q => q.elim ek e2)]; exact app0c w B s m rv vs kind lsn rl err A n k A' n' k' h e0 (by simpa using ek) (by simpa using e2)
  · rw [if_neg e0]
    by_cases e40 : err = 40
    · rw [if_pos e40]
      by_cases e1 : rl = 0
      · rw [if_pos e1]; exact app40a w B s m rv vs kind lsn rl err A n k A' n' k' h e40 e1
      · rw [if_neg e1]
        have e1' : (rl == 0) = false := by simpa using e1
        cases hA : m.add rl cl with
        | none => exact app40b w B s m rv vs kind lsn rl err A n k A' n' k' h cl hi hd e40 e1' hA
        | some m1 =>
          simp only [Option.bind_some, MS.lower]
          by_cases em : rl < m1.limit
          · rw [show min m1.limit rl = rl by omega]
            by_cases e2 : m1.durable ≤ rl
            · rw [if_pos e2]; exact app40cy w B s m rv vs kind lsn rl err A n k A' n' k' h cl hi hd e40 e1' m1 hA em e2
            · rw [if_neg e2]; exact app40cn w B s m rv vs kind lsn rl err A n k A' n' k' h cl hi hd e40 e1' m1 hA em (by simpa using e2)
          · have em' : m1.limit ≤ rl := by omega
            rw [show min m1.limit rl = m1.limit by omega]
            by_cases e2 : m1.durable ≤ m1.limit
            · rw [if_pos e2]; exact app40dy w B s m rv vs kind lsn rl err A n k A' n' k' h cl hi hd e40 e1' m1 hA em' e2
            · rw [if_neg e2]; exact app40dn w B s m rv vs kind lsn rl err A n k A' n' k' h cl hi hd e40 e1' m1 hA em' (by simpa using e2)
    · rw [if_neg e40]
      by_cases e3 : err = 3
      · rw [if_pos (.inl e3)]
        by_cases sn : m.sane
        · rw [if_pos sn]
          by_cases e1 : rl = 0
          · rw [if_pos ⟨e1, .inl (by omega)⟩]; exact app3c w B s m rv vs kind lsn rl err A n k A' n' k' h e3 sn e1
          · rw [if_neg (fun q => e1 q.1)]; exact app3b w B s m rv vs kind lsn rl err A n k A' n' k' h e3 sn (by simpa using e1)
        · rw [if_neg sn]; exact app3a w B s m rv vs kind lsn rl err A n k A' n' k' h e3 sn
      · by_cases e44 : err = 44
        · rw [if_pos (.inr (.inl e44))]
          by_cases sn : m.sane
          · rw [if_pos sn]
            by_cases e1 : rl = 0
            · by_cases e2 : m.next = top
              · rw [if_pos ⟨e1, .inr e2⟩]; exact app44c w B s m rv vs kind lsn rl err A n k A' n' k' h e44 sn e1 (by simpa [top] using e2)
              · rw [if_neg (fun q => q.2.elim (fun z => z e44) e2)]; exact app44d w B s m rv vs kind lsn rl err A n k A' n' k' h e44 sn e1 (by simpa [top] using e2)
            · rw [if_neg (fun q => e1 q.1)]; exact app44b w B s m rv vs kind lsn rl err A n k A' n' k' h e44 sn (by simpa using e1)
          · rw [if_neg sn]; exact app44a w B s m rv vs kind lsn rl err A n k A' n' k' h e44 sn
        · by_cases e9 : err = 9
          · rw [if_pos (.inr (.inr e9))]
            by_cases sn : m.sane
            · rw [if_pos sn]
              by_cases e1 : rl = 0
              · rw [if_pos ⟨e1, .inl (by omega)⟩]; exact app9c w B s m rv vs kind lsn rl err A n k A' n' k' h e9 sn e1
              · rw [if_neg (fun q => e1 q.1)]; exact app9b w B s m rv vs kind lsn rl err A n k A' n' k' h e9 sn (by simpa using e1)
            · rw [if_neg sn]; exact app9a w B s m rv vs kind lsn rl err A n k A' n' k' h e9 sn
          · rw [if_neg (fun q => q.elim e3 (fun q => q.elim e44 e9))]
            exact appx w B s m rv vs kind lsn rl err A n k A' n' k' h (by simpa using e0) (by simpa using e40) (by simpa using e3) (by simpa using e44) (by simpa using e9)
end Go.Proofs.Ytemllidcnamlmaa
