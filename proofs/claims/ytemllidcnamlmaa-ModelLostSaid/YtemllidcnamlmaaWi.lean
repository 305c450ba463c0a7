/- The walks of Apply's and Half's inner functions, and of used. -/
import Derived.Test.YtemllidcnamlmaaWh
namespace Go.Proofs.Ytemllidcnamlmaa
open Go.RowKit

theorem Post.of {B s : Nat} {rv : Value} {w : World} {o o' : Option MS} {e : Ending} {w' : World} (hp : Post B s rv w o e w') (h : o = o') : Post B s rv w o' e w' := h ▸ hp

set_option maxRecDepth 100000 in
set_option maxHeartbeats 1000000 in
theorem ap1 (w : World) (B s : Nat) (m : MS) (rv : Value) (vs : List Value) (kind lsn rl err : Int) (A : Option Addr) (n k : Nat) (A' : Option Addr) (n' k' : Nat) (a b : Nat) (h : St w B s m rv vs) (hp : Blk w a 32 #[.int .i64 kind, .int .i64 lsn, .slice A n k]) (hq : Blk w b 34 #[.int .i64 err, .int .i64 rl, .slice A' n' k']) (e0 : err = 41) (cl : m.closed = true) (e1 : rl = 0) (z : n' = 0) :
    Calls Try.prog 16 #[.pointer (some ⟨s, 0, none⟩), .pointer (some ⟨b, 0, none⟩), .pointer (some ⟨a, 0, none⟩)] w (Post B s rv w (some m)) := by
  subst e0 e1 z
  have p0 := hp.cell 0; have p1 := hp.cell 1; have p2 := hp.cell 2
  have q0 := hq.cell 0; have q1 := hq.cell 1; have q2 := hq.cell 2
  have s0 := h.blk.cell 0; have s1 := h.blk.cell 1; have s2 := h.blk.cell 2; have s3 := h.blk.cell 3; have s4 := h.blk.cell 4; have s5 := h.blk.cell 5
  have s6 := h.blk.cell 6; have s7 := h.blk.cell 7; have f7 := h.blk.frozen 7
  simp [cells] at p0 p1 p2 q0 q1 q2 s0 s1 s2 s3 s4 s5 s6 s7
  have H := hide h
  clear h hp hq
  rw [cl] at s7
  go_enter Try.func16, Try.ntmps16
  go_wp2_with (first | (go_at_call 14; first | (refine (may_true _).mono ?_; rintro e w1 ⟨rfl, rfl⟩) | (refine (may_false _).mono ?_; rintro e w1 ⟨rfl, rfl⟩)))
  go_end0
  exact .same (.refl _ _ _) H.out

set_option maxRecDepth 100000 in
set_option maxHeartbeats 1000000 in
theorem ap2 (w : World) (B s : Nat) (m : MS) (rv : Value) (vs : List Value) (kind lsn rl err : Int) (A : Option Addr) (n k : Nat) (A' : Option Addr) (n' k' : Nat) (a b : Nat) (h : St w B s m rv vs) (hp : Blk w a 32 #[.int .i64 kind, .int .i64 lsn, .slice A n k]) (hq : Blk w b 34 #[.int .i64 err, .int .i64 rl, .slice A' n' k']) (e0 : err = 41) (cl : m.closed = false) :
    Calls Try.prog 16 #[.pointer (some ⟨s, 0, none⟩), .pointer (some ⟨b, 0, none⟩), .pointer (some ⟨a, 0, none⟩)] w (Post B s rv w none) := by
  subst e0
  have p0 := hp.cell 0; have p1 := hp.cell 1; have p2 := hp.cell 2
  have q0 := hq.cell 0; have q1 := hq.cell 1; have q2 := hq.cell 2
  have s0 := h.blk.cell 0; have s1 := h.blk.cell 1; have s2 := h.blk.cell 2; have s3 := h.blk.cell 3; have s4 := h.blk.cell 4; have s5 := h.blk.cell 5
  have s6 := h.blk.cell 6; have s7 := h.blk.cell 7; have f7 := h.blk.frozen 7
  simp [cells] at p0 p1 p2 q0 q1 q2 s0 s1 s2 s3 s4 s5 s6 s7
  have H := hide h
  clear h hp hq
  rw [cl] at s7
  go_enter Try.func16, Try.ntmps16
  go_wp2_with (first | (go_at_call 14; first | (refine (may_true _).mono ?_; rintro e w1 ⟨rfl, rfl⟩) | (refine (may_false _).mono ?_; rintro e w1 ⟨rfl, rfl⟩)))
  exact ⟨rfl, .none (.refl _ _ _)⟩

set_option maxRecDepth 100000 in
set_option maxHeartbeats 1000000 in
theorem ap3 (w : World) (B s : Nat) (m : MS) (rv : Value) (vs : List Value) (kind lsn rl err : Int) (A : Option Addr) (n k : Nat) (A' : Option Addr) (n' k' : Nat) (a b : Nat) (h : St w B s m rv vs) (hp : Blk w a 32 #[.int .i64 kind, .int .i64 lsn, .slice A n k]) (hq : Blk w b 34 #[.int .i64 err, .int .i64 rl, .slice A' n' k']) (e0 : err = 41) (cl : m.closed = true) (e1 : (rl == 0) = false) :
    Calls Try.prog 16 #[.pointer (some ⟨s, 0, none⟩), .pointer (some ⟨b, 0, none⟩), .pointer (some ⟨a, 0, none⟩)] w (Post B s rv w none) := by
  subst e0
  have p0 := hp.cell 0; have p1 := hp.cell 1; have p2 := hp.cell 2
  have q0 := hq.cell 0; have q1 := hq.cell 1; have q2 := hq.cell 2
  have s0 := h.blk.cell 0; have s1 := h.blk.cell 1; have s2 := h.blk.cell 2; have s3 := h.blk.cell 3; have s4 := h.blk.cell 4; have s5 := h.blk.cell 5
  have s6 := h.blk.cell 6; have s7 := h.blk.cell 7; have f7 := h.blk.frozen 7
  simp [cells] at p0 p1 p2 q0 q1 q2 s0 s1 s2 s3 s4 s5 s6 s7
  have H := hide h
  clear h hp hq
  rw [cl] at s7
  go_enter Try.func16, Try.ntmps16
  go_wp2_with (first | (go_at_call 14; first | (refine (may_true _).mono ?_; rintro e w1 ⟨rfl, rfl⟩) | (refine (may_false _).mono ?_; rintro e w1 ⟨rfl, rfl⟩)))
  exact ⟨rfl, .none (.refl _ _ _)⟩

set_option maxRecDepth 100000 in
set_option maxHeartbeats 1000000 in
theorem ap4 (w : World) (B s : Nat) (m : MS) (rv : Value) (vs : List Value) (kind lsn rl err : Int) (A : Option Addr) (n k : Nat) (A' : Option Addr) (n' k' : Nat) (a b : Nat) (h : St w B s m rv vs) (hp : Blk w a 32 #[.int .i64 kind, .int .i64 lsn, .slice A n k]) (hq : Blk w b 34 #[.int .i64 err, .int .i64 rl, .slice A' n' k']) (e0 : err = 41) (cl : m.closed = true) (e1 : rl = 0) (z : ((n' : Int) == 0) = false) :
    Calls Try.prog 16 #[.pointer (some ⟨s, 0, none⟩), .pointer (some ⟨b, 0, none⟩), .pointer (some ⟨a, 0, none⟩)] w (Post B s rv w none) := by
  subst e0 e1
  have p0 := hp.cell 0; have p1 := hp.cell 1; have p2 := hp.cell 2
  have q0 := hq.cell 0; have q1 := hq.cell 1; have q2 := hq.cell 2
  have s0 := h.blk.cell 0; have s1 := h.blk.cell 1; have s2 := h.blk.cell 2; have s3 := h.blk.cell 3; have s4 := h.blk.cell 4; have s5 := h.blk.cell 5
  have s6 := h.blk.cell 6; have s7 := h.blk.cell 7; have f7 := h.blk.frozen 7
  simp [cells] at p0 p1 p2 q0 q1 q2 s0 s1 s2 s3 s4 s5 s6 s7
  have H := hide h
  clear h hp hq
  rw [cl] at s7
  go_enter Try.func16, Try.ntmps16
  go_wp2_with (first | (go_at_call 14; first | (refine (may_true _).mono ?_; rintro e w1 ⟨rfl, rfl⟩) | (refine (may_false _).mono ?_; rintro e w1 ⟨rfl, rfl⟩)))
  exact ⟨rfl, .none (.refl _ _ _)⟩

set_option maxRecDepth 100000 in
set_option maxHeartbeats 1000000 in
theorem ap5 (w : World) (B s : Nat) (m : MS) (rv : Value) (vs : List Value) (kind lsn rl err : Int) (A : Option Addr) (n k : Nat) (A' : Option Addr) (n' k' : Nat) (a b : Nat) (h : St w B s m rv vs) (hp : Blk w a 32 #[.int .i64 kind, .int .i64 lsn, .slice A n k]) (hq : Blk w b 34 #[.int .i64 err, .int .i64 rl, .slice A' n' k']) (e0 : (err == 41) = false) (cl : m.closed = true) :
    Calls Try.prog 16 #[.pointer (some ⟨s, 0, none⟩), .pointer (some ⟨b, 0, none⟩), .pointer (some ⟨a, 0, none⟩)] w (Post B s rv w none) := by
  have p0 := hp.cell 0; have p1 := hp.cell 1; have p2 := hp.cell 2
  have q0 := hq.cell 0; have q1 := hq.cell 1; have q2 := hq.cell 2
  have s0 := h.blk.cell 0; have s1 := h.blk.cell 1; have s2 := h.blk.cell 2; have s3 := h.blk.cell 3; have s4 := h.blk.cell 4; have s5 := h.blk.cell 5
  have s6 := h.blk.cell 6; have s7 := h.blk.cell 7; have f7 := h.blk.frozen 7
  simp [cells] at p0 p1 p2 q0 q1 q2 s0 s1 s2 s3 s4 s5 s6 s7
  have H := hide h
  clear h hp hq
  rw [cl] at s7
  go_enter Try.func16, Try.ntmps16
  go_wp2_with (first | (go_at_call 14; first | (refine (may_true _).mono ?_; rintro e w1 ⟨rfl, rfl⟩) | (refine (may_false _).mono ?_; rintro e w1 ⟨rfl, rfl⟩)))
  exact ⟨rfl, .none (.refl _ _ _)⟩

set_option maxRecDepth 100000 in
set_option maxHeartbeats 1000000 in
theorem ap6 (w : World) (B s : Nat) (m : MS) (rv : Value) (vs : List Value) (kind lsn rl err : Int) (A : Option Addr) (n k : Nat) (A' : Option Addr) (n' k' : Nat) (a b : Nat) (h : St w B s m rv vs) (hp : Blk w a 32 #[.int .i64 kind, .int .i64 lsn, .slice A n k]) (hq : Blk w b 34 #[.int .i64 err, .int .i64 rl, .slice A' n' k']) (cd l : List Int) (hi : m.Inv) (hd : Byt w w.heap.size A n k cd) (hr : Byt w w.heap.size A' n' k' l) (e0 : (err == 41) = false) (cl : m.closed = false) :
    Calls Try.prog 16 #[.pointer (some ⟨s, 0, none⟩), .pointer (some ⟨b, 0, none⟩), .pointer (some ⟨a, 0, none⟩)] w (Post B s rv w (m.answer ⟨kind, lsn, cd⟩ ⟨err, rl, l⟩)) := by
  have HD := hide hd; have HR := hide hr; have HI := hide hi
  clear hd hr hi
  have p0 := hp.cell 0; have p1 := hp.cell 1; have p2 := hp.cell 2
  have q0 := hq.cell 0; have q1 := hq.cell 1; have q2 := hq.cell 2
  have s0 := h.blk.cell 0; have s1 := h.blk.cell 1; have s2 := h.blk.cell 2; have s3 := h.blk.cell 3; have s4 := h.blk.cell 4; have s5 := h.blk.cell 5
  have s6 := h.blk.cell 6; have s7 := h.blk.cell 7; have f7 := h.blk.frozen 7
  simp [cells] at p0 p1 p2 q0 q1 q2 s0 s1 s2 s3 s4 s5 s6 s7
  have H := hide h
  clear h hp hq
  rw [cl] at s7
  go_enter Try.func16, Try.ntmps16
  go_wp2_with (first | (go_at_call 14; first | (refine (may_true _).mono ?_; rintro e w1 ⟨rfl, rfl⟩) | (refine (may_false _).mono ?_; rintro e w1 ⟨rfl, rfl⟩)) | (go_at_call 17; refine (answer_any _ B s m rv vs ⟨kind, lsn, cd⟩ ⟨err, rl, l⟩ A n k A' n' k' H.out HI.out HD.out HR.out).mono ?_; rintro e w1 hP; have hE := hP.ends; have HP := hide hP; clear hP; rcases hE with rfl | rfl))
  all_goals first | exact ⟨rfl, HP.out⟩ | (go_end0; exact HP.out)

theorem applyIn_any (w : World) (B s : Nat) (m : MS) (rv : Value) (vs : List Value) (c : CM) (r : RM) (A : Option Addr) (n k : Nat) (A' : Option Addr) (n' k' : Nat) (a b : Nat) (h : St w B s m rv vs) (hi : m.Inv)
    (hd : Byt w w.heap.size A n k c.data) (hr : Byt w w.heap.size A' n' k' r.data) (hp : Blk w a 32 #[.int .i64 c.kind, .int .i64 c.lsn, .slice A n k]) (hq : Blk w b 34 #[.int .i64 r.err, .int .i64 r.lsn, .slice A' n' k']) :
    Calls Try.prog 16 #[.pointer (some ⟨s, 0, none⟩), .pointer (some ⟨b, 0, none⟩), .pointer (some ⟨a, 0, none⟩)] w (Post B s rv w (m.apply1 c r)) := by
  obtain ⟨err, rl, l⟩ := r
  obtain ⟨kind, lsn, cd⟩ := c
  have hl : l.length = n' := by have := hr.1.1; simpa using this
  unfold MS.apply1
  simp only at hd hr hp hq ⊢
  by_cases e0 : err = 41
  · rw [if_pos e0]
    cases cl : m.closed with
    | false => rw [if_neg (fun q => by cases q.1)]; exact ap2 w B s m rv vs kind lsn rl err A n k A' n' k' a b h hp hq e0 cl
    | true =>
      by_cases e1 : rl = 0
      · by_cases z : n' = 0
        · have hnil : l = [] := List.eq_nil_of_length_eq_zero (by omega)
          rw [if_pos ⟨rfl, e1, hnil⟩]; exact ap1 w B s m rv vs kind lsn rl err A n k A' n' k' a b h hp hq e0 cl e1 z
        · rw [if_neg (fun q => z (by rw [← hl, q.2.2]; rfl))]; exact ap4 w B s m rv vs kind lsn rl err A n k A' n' k' a b h hp hq e0 cl e1 (by simpa using z)
      · rw [if_neg (fun q => e1 q.2.1)]; exact ap3 w B s m rv vs kind lsn rl err A n k A' n' k' a b h hp hq e0 cl (by simpa using e1)
  · rw [if_neg e0]
    cases cl : m.closed with
    | true => rw [if_pos rfl]; exact ap5 w B s m rv vs kind lsn rl err A n k A' n' k' a b h hp hq (by simpa using e0) cl
    | false => rw [if_neg (by simp)]; exact ap6 w B s m rv vs kind lsn rl err A n k A' n' k' a b h hp hq cd l hi hd hr (by simpa using e0) cl

set_option maxRecDepth 100000 in
set_option maxHeartbeats 1000000 in
theorem ha1 (w : World) (B s : Nat) (m : MS) (rv : Value) (vs : List Value) (kind lsn : Int) (A : Option Addr) (n k : Nat) (a : Nat) (h : St w B s m rv vs) (hp : Blk w a 32 #[.int .i64 kind, .int .i64 lsn, .slice A n k]) (cd : List Int) (hi : m.Inv) (hd : Byt w w.heap.size A n k cd) (ek : kind = 1) :
    Calls Try.prog 12 #[.pointer (some ⟨s, 0, none⟩), .pointer (some ⟨a, 0, none⟩)] w (Post B s rv w (m.add m.next cd)) := by
  have HD := hide hd; have HI := hide hi
  clear hd hi
  subst ek
  have p0 := hp.cell 0; have p1 := hp.cell 1; have p2 := hp.cell 2
  have s0 := h.blk.cell 0; have s1 := h.blk.cell 1; have s2 := h.blk.cell 2; have s3 := h.blk.cell 3; have s4 := h.blk.cell 4; have s5 := h.blk.cell 5
  have s6 := h.blk.cell 6; have s7 := h.blk.cell 7; have f7 := h.blk.frozen 7
  simp [cells] at p0 p1 p2 s0 s1 s2 s3 s4 s5 s6 s7
  have H := hide h
  clear h hp
  go_enter Try.func12, Try.ntmps12
  go_wp2_with (first | (go_at_call 14; first | (refine (may_true _).mono ?_; rintro e w1 ⟨rfl, rfl⟩) | (refine (may_false _).mono ?_; rintro e w1 ⟨rfl, rfl⟩)))
  refine WS.start 8 (by kernel_rfl) (by kernel_rfl) ?_
  simp only [List.take_succ_cons, List.take_zero, List.drop_succ_cons, List.drop_zero]
  iterate 8 (refine WS.step (fun K hK => ?_); go_simp; refine hK _ ?_; clear hK K)
  refine WS.nil ?_
  go_wp2_with (first | (go_at_call 13; refine (add_any _ B s m rv vs _ A n k cd H.out.drew HI.out HD.out).mono ?_; rintro e w1 hP; have hE := hP.ends; have HP := hide hP; clear hP; rcases hE with rfl | rfl))
  all_goals first | exact ⟨rfl, HP.out.pre (Chg.refl _ _ _).drew⟩ | (go_end0; exact HP.out.pre (Chg.refl _ _ _).drew)

set_option maxRecDepth 100000 in
set_option maxHeartbeats 1000000 in
theorem ha2 (w : World) (B s : Nat) (m : MS) (rv : Value) (vs : List Value) (kind lsn : Int) (A : Option Addr) (n k : Nat) (a : Nat) (h : St w B s m rv vs) (hp : Blk w a 32 #[.int .i64 kind, .int .i64 lsn, .slice A n k]) (cd : List Int) (hi : m.Inv) (hd : Byt w w.heap.size A n k cd) (ek : kind = 2) :
    Calls Try.prog 12 #[.pointer (some ⟨s, 0, none⟩), .pointer (some ⟨a, 0, none⟩)] w (Post B s rv w (m.add m.next cd)) := by
  have HD := hide hd; have HI := hide hi
  clear hd hi
  subst ek
  have p0 := hp.cell 0; have p1 := hp.cell 1; have p2 := hp.cell 2
  have s0 := h.blk.cell 0; have s1 := h.blk.cell 1; have s2 := h.blk.cell 2; have s3 := h.blk.cell 3; have s4 := h.blk.cell 4; have s5 := h.blk.cell 5
  have s6 := h.blk.cell 6; have s7 := h.blk.cell 7; have f7 := h.blk.frozen 7
  simp [cells] at p0 p1 p2 s0 s1 s2 s3 s4 s5 s6 s7
  have H := hide h
  clear h hp
  go_enter Try.func12, Try.ntmps12
  go_wp2_with (first | (go_at_call 14; first | (refine (may_true _).mono ?_; rintro e w1 ⟨rfl, rfl⟩) | (refine (may_false _).mono ?_; rintro e w1 ⟨rfl, rfl⟩)))
  refine WS.start 8 (by kernel_rfl) (by kernel_rfl) ?_
  simp only [List.take_succ_cons, List.take_zero, List.drop_succ_cons, List.drop_zero]
  iterate 8 (refine WS.step (fun K hK => ?_); go_simp; refine hK _ ?_; clear hK K)
  refine WS.nil ?_
  go_wp2_with (first | (go_at_call 13; refine (add_any _ B s m rv vs _ A n k cd H.out.drew HI.out HD.out).mono ?_; rintro e w1 hP; have hE := hP.ends; have HP := hide hP; clear hP; rcases hE with rfl | rfl))
  all_goals first | exact ⟨rfl, HP.out.pre (Chg.refl _ _ _).drew⟩ | (go_end0; exact HP.out.pre (Chg.refl _ _ _).drew)

set_option maxRecDepth 100000 in
set_option maxHeartbeats 1000000 in
theorem ha6a (w : World) (B s : Nat) (m : MS) (rv : Value) (vs : List Value) (kind lsn : Int) (A : Option Addr) (n k : Nat) (a : Nat) (h : St w B s m rv vs) (hp : Blk w a 32 #[.int .i64 kind, .int .i64 lsn, .slice A n k]) (cd : List Int) (ek : kind = 6) (cl : m.closed = false) :
    Calls Try.prog 12 #[.pointer (some ⟨s, 0, none⟩), .pointer (some ⟨a, 0, none⟩)] w (Post B s rv w (m.truncate ⟨6, lsn, cd⟩ ⟨0, 0, []⟩)) := by
  subst ek
  have p0 := hp.cell 0; have p1 := hp.cell 1; have p2 := hp.cell 2
  have s0 := h.blk.cell 0; have s1 := h.blk.cell 1; have s2 := h.blk.cell 2; have s3 := h.blk.cell 3; have s4 := h.blk.cell 4; have s5 := h.blk.cell 5
  have s6 := h.blk.cell 6; have s7 := h.blk.cell 7; have f7 := h.blk.frozen 7
  simp [cells] at p0 p1 p2 s0 s1 s2 s3 s4 s5 s6 s7
  have H := hide h
  clear h hp
  rw [cl] at s7
  go_enter Try.func12, Try.ntmps12
  go_wp2_with (first | (go_at_call 14; first | (refine (may_true _).mono ?_; rintro e w1 ⟨rfl, rfl⟩) | (refine (may_false _).mono ?_; rintro e w1 ⟨rfl, rfl⟩)) | (go_at_call 15; refine (truncate_any _ B s m rv vs ⟨6, lsn, cd⟩ ⟨0, 0, []⟩ A n k _ _ _ H.out).mono ?_; rintro e w1 hP; have hE := hP.ends; have HP := hide hP; clear hP; rcases hE with rfl | rfl))
  all_goals first | exact ⟨rfl, HP.out⟩ | (go_end0; exact HP.out)

set_option maxRecDepth 100000 in
set_option maxHeartbeats 1000000 in
theorem ha6b (w : World) (B s : Nat) (m : MS) (rv : Value) (vs : List Value) (kind lsn : Int) (A : Option Addr) (n k : Nat) (a : Nat) (h : St w B s m rv vs) (hp : Blk w a 32 #[.int .i64 kind, .int .i64 lsn, .slice A n k]) (ek : kind = 6) (cl : m.closed = true) :
    Calls Try.prog 12 #[.pointer (some ⟨s, 0, none⟩), .pointer (some ⟨a, 0, none⟩)] w (Post B s rv w none) := by
  subst ek
  have p0 := hp.cell 0; have p1 := hp.cell 1; have p2 := hp.cell 2
  have s0 := h.blk.cell 0; have s1 := h.blk.cell 1; have s2 := h.blk.cell 2; have s3 := h.blk.cell 3; have s4 := h.blk.cell 4; have s5 := h.blk.cell 5
  have s6 := h.blk.cell 6; have s7 := h.blk.cell 7; have f7 := h.blk.frozen 7
  simp [cells] at p0 p1 p2 s0 s1 s2 s3 s4 s5 s6 s7
  have H := hide h
  clear h hp
  rw [cl] at s7
  go_enter Try.func12, Try.ntmps12
  go_wp2_with (first | (go_at_call 14; first | (refine (may_true _).mono ?_; rintro e w1 ⟨rfl, rfl⟩) | (refine (may_false _).mono ?_; rintro e w1 ⟨rfl, rfl⟩)))
  exact ⟨rfl, .none (.refl _ _ _)⟩

set_option maxRecDepth 100000 in
set_option maxHeartbeats 1000000 in
theorem ha7a (w : World) (B s : Nat) (m : MS) (rv : Value) (vs : List Value) (kind lsn : Int) (A : Option Addr) (n k : Nat) (a : Nat) (h : St w B s m rv vs) (hp : Blk w a 32 #[.int .i64 kind, .int .i64 lsn, .slice A n k]) (ek : kind = 7) (cl : m.closed = false) :
    Calls Try.prog 12 #[.pointer (some ⟨s, 0, none⟩), .pointer (some ⟨a, 0, none⟩)] w (Post B s rv w (some m.shut)) := by
  subst ek
  have p0 := hp.cell 0; have p1 := hp.cell 1; have p2 := hp.cell 2
  have s0 := h.blk.cell 0; have s1 := h.blk.cell 1; have s2 := h.blk.cell 2; have s3 := h.blk.cell 3; have s4 := h.blk.cell 4; have s5 := h.blk.cell 5
  have s6 := h.blk.cell 6; have s7 := h.blk.cell 7; have f7 := h.blk.frozen 7
  simp [cells] at p0 p1 p2 s0 s1 s2 s3 s4 s5 s6 s7
  have H := hide h
  clear h hp
  rw [cl] at s7
  go_enter Try.func12, Try.ntmps12
  go_wp2_with (first | (go_at_call 14; first | (refine (may_true _).mono ?_; rintro e w1 ⟨rfl, rfl⟩) | (refine (may_false _).mono ?_; rintro e w1 ⟨rfl, rfl⟩)))
  go_end0
  exact .same ((Chg.refl _ _ _).setCell (p := ⟨s, 7, none⟩) (.inl rfl) _) (H.out.set 7 _ (by simp [cells, MS.shut]) rfl)

set_option maxRecDepth 100000 in
set_option maxHeartbeats 1000000 in
theorem ha7b (w : World) (B s : Nat) (m : MS) (rv : Value) (vs : List Value) (kind lsn : Int) (A : Option Addr) (n k : Nat) (a : Nat) (h : St w B s m rv vs) (hp : Blk w a 32 #[.int .i64 kind, .int .i64 lsn, .slice A n k]) (ek : kind = 7) (cl : m.closed = true) :
    Calls Try.prog 12 #[.pointer (some ⟨s, 0, none⟩), .pointer (some ⟨a, 0, none⟩)] w (Post B s rv w none) := by
  subst ek
  have p0 := hp.cell 0; have p1 := hp.cell 1; have p2 := hp.cell 2
  have s0 := h.blk.cell 0; have s1 := h.blk.cell 1; have s2 := h.blk.cell 2; have s3 := h.blk.cell 3; have s4 := h.blk.cell 4; have s5 := h.blk.cell 5
  have s6 := h.blk.cell 6; have s7 := h.blk.cell 7; have f7 := h.blk.frozen 7
  simp [cells] at p0 p1 p2 s0 s1 s2 s3 s4 s5 s6 s7
  have H := hide h
  clear h hp
  rw [cl] at s7
  go_enter Try.func12, Try.ntmps12
  go_wp2_with (first | (go_at_call 14; first | (refine (may_true _).mono ?_; rintro e w1 ⟨rfl, rfl⟩) | (refine (may_false _).mono ?_; rintro e w1 ⟨rfl, rfl⟩)))
  exact ⟨rfl, .none (.refl _ _ _)⟩

set_option maxRecDepth 100000 in
set_option maxHeartbeats 1000000 in
theorem hax (w : World) (B s : Nat) (m : MS) (rv : Value) (vs : List Value) (kind lsn : Int) (A : Option Addr) (n k : Nat) (a : Nat) (h : St w B s m rv vs) (hp : Blk w a 32 #[.int .i64 kind, .int .i64 lsn, .slice A n k]) (k1 : (kind == 1) = false) (k2 : (kind == 2) = false) (k6 : (kind == 6) = false) (k7 : (kind == 7) = false) :
    Calls Try.prog 12 #[.pointer (some ⟨s, 0, none⟩), .pointer (some ⟨a, 0, none⟩)] w (Post B s rv w none) := by
  have p0 := hp.cell 0; have p1 := hp.cell 1; have p2 := hp.cell 2
  have s0 := h.blk.cell 0; have s1 := h.blk.cell 1; have s2 := h.blk.cell 2; have s3 := h.blk.cell 3; have s4 := h.blk.cell 4; have s5 := h.blk.cell 5
  have s6 := h.blk.cell 6; have s7 := h.blk.cell 7; have f7 := h.blk.frozen 7
  simp [cells] at p0 p1 p2 s0 s1 s2 s3 s4 s5 s6 s7
  have H := hide h
  clear h hp
  go_enter Try.func12, Try.ntmps12
  go_wp2_with (first | (go_at_call 14; first | (refine (may_true _).mono ?_; rintro e w1 ⟨rfl, rfl⟩) | (refine (may_false _).mono ?_; rintro e w1 ⟨rfl, rfl⟩)))
  exact ⟨rfl, .none (.refl _ _ _)⟩

theorem halfIn_any (w : World) (B s : Nat) (m : MS) (rv : Value) (vs : List Value) (c : CM) (A : Option Addr) (n k : Nat) (a : Nat) (h : St w B s m rv vs) (hi : m.Inv)
    (hd : Byt w w.heap.size A n k c.data) (hp : Blk w a 32 #[.int .i64 c.kind, .int .i64 c.lsn, .slice A n k]) :
    Calls Try.prog 12 #[.pointer (some ⟨s, 0, none⟩), .pointer (some ⟨a, 0, none⟩)] w (Post B s rv w (m.half1 c)) := by
  obtain ⟨kind, lsn, cd⟩ := c
  unfold MS.half1
  simp only at hd hp ⊢
  by_cases k1 : kind = 1
  · rw [if_pos (.inl k1)]; exact ha1 w B s m rv vs kind lsn A n k a h hp cd hi hd k1
  · by_cases k2 : kind = 2
    · rw [if_pos (.inr k2)]; exact ha2 w B s m rv vs kind lsn A n k a h hp cd hi hd k2
    · rw [if_neg (fun q => q.elim k1 k2)]
      by_cases k6 : kind = 6
      · rw [if_pos k6]
        cases cl : m.closed with
        | true => rw [if_pos rfl]; exact ha6b w B s m rv vs kind lsn A n k a h hp k6 cl
        | false => rw [if_neg (by simp), k6]; exact ha6a w B s m rv vs 6 lsn A n k a h (k6 ▸ hp) cd rfl cl
      · rw [if_neg k6]
        by_cases k7 : kind = 7
        · rw [if_pos k7]
          cases cl : m.closed with
          | true => rw [if_pos rfl]; exact ha7b w B s m rv vs kind lsn A n k a h hp k7 cl
          | false => rw [if_neg (by simp)]; exact ha7a w B s m rv vs kind lsn A n k a h hp k7 cl
        · rw [if_neg k7]; exact hax w B s m rv vs kind lsn A n k a h hp (by simpa using k1) (by simpa using k2) (by simpa using k6) (by simpa using k7)

set_option maxRecDepth 100000 in
set_option maxHeartbeats 1000000 in
theorem us1a (w : World) (kind lsn : Int) (A : Option Addr) (n k : Nat) (ek : kind = 1) (e1 : lsn = 0) :
    Calls Try.prog 10 #[.agg #[.int .i64 kind, .int .i64 lsn, .slice A n k]] w fun e w' => e = .returned (.bool true) ∧ ∃ o, w' = w.alloc o := by
  subst ek e1
  go_enter Try.func10, Try.ntmps10
  go_wp2
  go_ret
  exact ⟨rfl, _, rfl⟩

set_option maxRecDepth 100000 in
set_option maxHeartbeats 1000000 in
theorem us1b (w : World) (kind lsn : Int) (A : Option Addr) (n k : Nat) (ek : kind = 1) (e1 : (lsn == 0) = false) :
    Calls Try.prog 10 #[.agg #[.int .i64 kind, .int .i64 lsn, .slice A n k]] w fun e w' => e = .returned (.bool false) ∧ ∃ o, w' = w.alloc o := by
  subst ek
  go_enter Try.func10, Try.ntmps10
  go_wp2
  go_ret
  exact ⟨rfl, _, rfl⟩

set_option maxRecDepth 100000 in
set_option maxHeartbeats 1000000 in
theorem us2a (w : World) (kind lsn : Int) (A : Option Addr) (n k : Nat) (ek : kind = 2) (e1 : lsn = 0) :
    Calls Try.prog 10 #[.agg #[.int .i64 kind, .int .i64 lsn, .slice A n k]] w fun e w' => e = .returned (.bool true) ∧ ∃ o, w' = w.alloc o := by
  subst ek e1
  go_enter Try.func10, Try.ntmps10
  go_wp2
  go_ret
  exact ⟨rfl, _, rfl⟩

set_option maxRecDepth 100000 in
set_option maxHeartbeats 1000000 in
theorem us2b (w : World) (kind lsn : Int) (A : Option Addr) (n k : Nat) (ek : kind = 2) (e1 : (lsn == 0) = false) :
    Calls Try.prog 10 #[.agg #[.int .i64 kind, .int .i64 lsn, .slice A n k]] w fun e w' => e = .returned (.bool false) ∧ ∃ o, w' = w.alloc o := by
  subst ek
  go_enter Try.func10, Try.ntmps10
  go_wp2
  go_ret
  exact ⟨rfl, _, rfl⟩

set_option maxRecDepth 100000 in
set_option maxHeartbeats 1000000 in
theorem us3a (w : World) (kind lsn : Int) (A : Option Addr) (n k : Nat) (ek : kind = 3) (e1 : lsn = 0) (z : n = 0) :
    Calls Try.prog 10 #[.agg #[.int .i64 kind, .int .i64 lsn, .slice A n k]] w fun e w' => e = .returned (.bool true) ∧ ∃ o, w' = w.alloc o := by
  subst ek e1 z
  go_enter Try.func10, Try.ntmps10
  go_wp2
  go_ret
  exact ⟨rfl, _, rfl⟩

set_option maxRecDepth 100000 in
set_option maxHeartbeats 1000000 in
theorem us3b (w : World) (kind lsn : Int) (A : Option Addr) (n k : Nat) (ek : kind = 3) (e1 : (lsn == 0) = false) :
    Calls Try.prog 10 #[.agg #[.int .i64 kind, .int .i64 lsn, .slice A n k]] w fun e w' => e = .returned (.bool false) ∧ ∃ o, w' = w.alloc o := by
  subst ek
  go_enter Try.func10, Try.ntmps10
  go_wp2
  go_ret
  exact ⟨rfl, _, rfl⟩

set_option maxRecDepth 100000 in
set_option maxHeartbeats 1000000 in
theorem us3c (w : World) (kind lsn : Int) (A : Option Addr) (n k : Nat) (ek : kind = 3) (e1 : lsn = 0) (z : ((n : Int) == 0) = false) :
    Calls Try.prog 10 #[.agg #[.int .i64 kind, .int .i64 lsn, .slice A n k]] w fun e w' => e = .returned (.bool false) ∧ ∃ o, w' = w.alloc o := by
  subst ek e1
  go_enter Try.func10, Try.ntmps10
  go_wp2
  go_ret
  exact ⟨rfl, _, rfl⟩

set_option maxRecDepth 100000 in
set_option maxHeartbeats 1000000 in
theorem us7a (w : World) (kind lsn : Int) (A : Option Addr) (n k : Nat) (ek : kind = 7) (e1 : lsn = 0) (z : n = 0) :
    Calls Try.prog 10 #[.agg #[.int .i64 kind, .int .i64 lsn, .slice A n k]] w fun e w' => e = .returned (.bool true) ∧ ∃ o, w' = w.alloc o := by
  subst ek e1 z
  go_enter Try.func10, Try.ntmps10
  go_wp2
  go_ret
  exact ⟨rfl, _, rfl⟩

set_option maxRecDepth 100000 in
set_option maxHeartbeats 1000000 in
theorem us7b (w : World) (kind lsn : Int) (A : Option Addr) (n k : Nat) (ek : kind = 7) (e1 : (lsn == 0) = false) :
    Calls Try.prog 10 #[.agg #[.int .i64 kind, .int .i64 lsn, .slice A n k]] w fun e w' => e = .returned (.bool false) ∧ ∃ o, w' = w.alloc o := by
  subst ek
  go_enter Try.func10, Try.ntmps10
  go_wp2
  go_ret
  exact ⟨rfl, _, rfl⟩

set_option maxRecDepth 100000 in
set_option maxHeartbeats 1000000 in
theorem us7c (w : World) (kind lsn : Int) (A : Option Addr) (n k : Nat) (ek : kind = 7) (e1 : lsn = 0) (z : ((n : Int) == 0) = false) :
    Calls Try.prog 10 #[.agg #[.int .i64 kind, .int .i64 lsn, .slice A n k]] w fun e w' => e = .returned (.bool false) ∧ ∃ o, w' = w.alloc o := by
  subst ek e1
  go_enter Try.func10, Try.ntmps10
  go_wp2
  go_ret
  exact ⟨rfl, _, rfl⟩

set_option maxRecDepth 100000 in
set_option maxHeartbeats 1000000 in
theorem us4a (w : World) (kind lsn : Int) (A : Option Addr) (n k : Nat) (ek : kind = 4) (z : n = 0) :
    Calls Try.prog 10 #[.agg #[.int .i64 kind, .int .i64 lsn, .slice A n k]] w fun e w' => e = .returned (.bool true) ∧ ∃ o, w' = w.alloc o := by
  subst ek z
  go_enter Try.func10, Try.ntmps10
  go_wp2
  go_ret
  exact ⟨rfl, _, rfl⟩

set_option maxRecDepth 100000 in
set_option maxHeartbeats 1000000 in
theorem us4b (w : World) (kind lsn : Int) (A : Option Addr) (n k : Nat) (ek : kind = 4) (z : ((n : Int) == 0) = false) :
    Calls Try.prog 10 #[.agg #[.int .i64 kind, .int .i64 lsn, .slice A n k]] w fun e w' => e = .returned (.bool false) ∧ ∃ o, w' = w.alloc o := by
  subst ek
  go_enter Try.func10, Try.ntmps10
  go_wp2
  go_ret
  exact ⟨rfl, _, rfl⟩

set_option maxRecDepth 100000 in
set_option maxHeartbeats 1000000 in
theorem us5a (w : World) (kind lsn : Int) (A : Option Addr) (n k : Nat) (ek : kind = 5) (z : n = 0) :
    Calls Try.prog 10 #[.agg #[.int .i64 kind, .int .i64 lsn, .slice A n k]] w fun e w' => e = .returned (.bool true) ∧ ∃ o, w' = w.alloc o := by
  subst ek z
  go_enter Try.func10, Try.ntmps10
  go_wp2
  go_ret
  exact ⟨rfl, _, rfl⟩

set_option maxRecDepth 100000 in
set_option maxHeartbeats 1000000 in
theorem us5b (w : World) (kind lsn : Int) (A : Option Addr) (n k : Nat) (ek : kind = 5) (z : ((n : Int) == 0) = false) :
    Calls Try.prog 10 #[.agg #[.int .i64 kind, .int .i64 lsn, .slice A n k]] w fun e w' => e = .returned (.bool false) ∧ ∃ o, w' = w.alloc o := by
  subst ek
  go_enter Try.func10, Try.ntmps10
  go_wp2
  go_ret
  exact ⟨rfl, _, rfl⟩

set_option maxRecDepth 100000 in
set_option maxHeartbeats 1000000 in
theorem us6a (w : World) (kind lsn : Int) (A : Option Addr) (n k : Nat) (ek : kind = 6) (z : n = 0) :
    Calls Try.prog 10 #[.agg #[.int .i64 kind, .int .i64 lsn, .slice A n k]] w fun e w' => e = .returned (.bool true) ∧ ∃ o, w' = w.alloc o := by
  subst ek z
  go_enter Try.func10, Try.ntmps10
  go_wp2
  go_ret
  exact ⟨rfl, _, rfl⟩

set_option maxRecDepth 100000 in
set_option maxHeartbeats 1000000 in
theorem us6b (w : World) (kind lsn : Int) (A : Option Addr) (n k : Nat) (ek : kind = 6) (z : ((n : Int) == 0) = false) :
    Calls Try.prog 10 #[.agg #[.int .i64 kind, .int .i64 lsn, .slice A n k]] w fun e w' => e = .returned (.bool false) ∧ ∃ o, w' = w.alloc o := by
  subst ek
  go_enter Try.func10, Try.ntmps10
  go_wp2
  go_ret
  exact ⟨rfl, _, rfl⟩

set_option maxRecDepth 100000 in
set_option maxHeartbeats 1000000 in
theorem usx (w : World) (kind lsn : Int) (A : Option Addr) (n k : Nat) (k1 : (kind == 1) = false) (k2 : (kind == 2) = false) (k3 : (kind == 3) = false) (k4 : (kind == 4) = false) (k5 : (kind == 5) = false) (k6 : (kind == 6) = false) (k7 : (kind == 7) = false) :
    Calls Try.prog 10 #[.agg #[.int .i64 kind, .int .i64 lsn, .slice A n k]] w fun e w' => e = .returned (.bool false) ∧ ∃ o, w' = w.alloc o := by
  go_enter Try.func10, Try.ntmps10
  go_wp2
  go_ret
  exact ⟨rfl, _, rfl⟩

theorem used_any (w : World) (c : CM) (A : Option Addr) (n k : Nat) (hl : c.data.length = n) :
    Calls Try.prog 10 #[callV c A n k] w fun e w' => e = .returned (.bool (decide (MS.used c))) ∧ ∃ o, w' = w.alloc o := by
  obtain ⟨kind, lsn, cd⟩ := c
  simp only at hl
  have hz : n = 0 → cd = [] := fun z => List.eq_nil_of_length_eq_zero (by omega)
  have hnz : ¬ n = 0 → ¬ cd = [] := fun z q => z (by rw [← hl, q]; rfl)
  have key : ∀ b : Bool, decide (MS.used ⟨kind, lsn, cd⟩) = b → (Calls Try.prog 10 #[.agg #[.int .i64 kind, .int .i64 lsn, .slice A n k]] w fun e w' => e = .returned (.bool b) ∧ ∃ o, w' = w.alloc o) →
      Calls Try.prog 10 #[callV ⟨kind, lsn, cd⟩ A n k] w fun e w' => e = .returned (.bool (decide (MS.used ⟨kind, lsn, cd⟩))) ∧ ∃ o, w' = w.alloc o := by
    intro b hb h
    rw [hb]; exact h
  by_cases k1 : kind = 1
  · by_cases e1 : lsn = 0
    · exact key true (by simp [MS.used, k1, e1]) (us1a w kind lsn A n k k1 e1)
    · exact key false (by simp [MS.used, k1, e1]) (us1b w kind lsn A n k k1 (by simpa using e1))
  by_cases k2 : kind = 2
  · by_cases e1 : lsn = 0
    · exact key true (by simp [MS.used, k2, e1]) (us2a w kind lsn A n k k2 e1)
    · exact key false (by simp [MS.used, k2, e1]) (us2b w kind lsn A n k k2 (by simpa using e1))
  by_cases k3 : kind = 3
  · by_cases e1 : lsn = 0
    · by_cases z : n = 0
      · exact key true (by simp [MS.used, k3, e1, hz z]) (us3a w kind lsn A n k k3 e1 z)
      · exact key false (by simp [MS.used, k3, e1, hnz z]) (us3c w kind lsn A n k k3 e1 (by simpa using z))
    · exact key false (by simp [MS.used, k3, e1]) (us3b w kind lsn A n k k3 (by simpa using e1))
  by_cases k7 : kind = 7
  · by_cases e1 : lsn = 0
    · by_cases z : n = 0
      · exact key true (by simp [MS.used, k7, e1, hz z]) (us7a w kind lsn A n k k7 e1 z)
      · exact key false (by simp [MS.used, k7, e1, hnz z]) (us7c w kind lsn A n k k7 e1 (by simpa using z))
    · exact key false (by simp [MS.used, k7, e1]) (us7b w kind lsn A n k k7 (by simpa using e1))
  by_cases k4 : kind = 4
  · by_cases z : n = 0
    · exact key true (by simp [MS.used, k4, hz z]) (us4a w kind lsn A n k k4 z)
    · exact key false (by simp [MS.used, k4, hnz z]) (us4b w kind lsn A n k k4 (by simpa using z))
  by_cases k5 : kind = 5
  · by_cases z : n = 0
    · exact key true (by simp [MS.used, k5, hz z]) (us5a w kind lsn A n k k5 z)
    · exact key false (by simp [MS.used, k5, hnz z]) (us5b w kind lsn A n k k5 (by simpa using z))
  by_cases k6 : kind = 6
  · by_cases z : n = 0
    · exact key true (by simp [MS.used, k6, hz z]) (us6a w kind lsn A n k k6 z)
    · exact key false (by simp [MS.used, k6, hnz z]) (us6b w kind lsn A n k k6 (by simpa using z))
  exact key false (by simp [MS.used, k1, k2, k3, k4, k5, k6, k7]) (usx w kind lsn A n k (by simpa using k1) (by simpa using k2) (by simpa using k3) (by simpa using k4) (by simpa using k5) (by simpa using k6) (by simpa using k7))
end Go.Proofs.Ytemllidcnamlmaa
