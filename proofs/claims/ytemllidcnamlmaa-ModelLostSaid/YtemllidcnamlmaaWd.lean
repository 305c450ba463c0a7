/- What a method sees behind its two boxed arguments. -/
import Derived.Test.YtemllidcnamlmaaWc
import Derived.Deep.DeepCutAuto
namespace Go.Proofs.Ytemllidcnamlmaa
open Go.RowKit
def resV (r : RM) (A : Option Addr) (n c : Nat) : Value := .agg #[.int .i64 r.err, .int .i64 r.lsn, .slice A n c]
def callV (r : CM) (A : Option Addr) (n c : Nat) : Value := .agg #[.int .i64 r.kind, .int .i64 r.lsn, .slice A n c]

/-- w2 is w with a call and a result in new blocks. -/
structure Boxed (w w2 : World) (B s : Nat) (m : MS) (rv : Value) (vs : List Value) (a b : Nat) (c1 c2 c3 r1 r2 r3 : Value) : Prop where
  st : St w2 B s m rv vs
  chg : Chg w w2 s rv
  p : Blk w2 a 32 #[c1, c2, c3]
  q : Blk w2 b 34 #[r1, r2, r3]

theorem boxed {w : World} {B s : Nat} {m : MS} {rv : Value} {vs : List Value} (h : St w B s m rv vs) (c1 c2 c3 r1 r2 r3 : Value) :
    Boxed w ((w.alloc (.cells #[c1, c2, c3] 32)).alloc (.cells #[r1, r2, r3] 34)) B s m rv vs w.heap.size (w.heap.size + 1) c1 c2 c3 r1 r2 r3 := by
  refine ⟨(h.alloc _).alloc _, ((Chg.refl _ _ _).alloc _).alloc _, (Blk.new _ _ _).alloc _, ?_⟩
  have := Blk.new (w.alloc (.cells #[c1, c2, c3] 32)) 34 #[r1, r2, r3]
  simpa using this

theorem Byt.alloc {w : World} {A : Option Addr} {n c : Nat} {l : List Int} (h : Byt w w.heap.size A n c l) (o : Obj) : Byt (w.alloc o) (w.alloc o).heap.size A n c l :=
  ⟨(h.1.alloc (Nat.le_refl _) o).more (by simp), h.2⟩
theorem Byt.chg {w w' : World} {s : Nat} {rv : Value} {A : Option Addr} {n c B : Nat} {l : List Int} (h : Byt w B A n c l) (hc : Chg w w' s rv) (hB : B ≤ w.heap.size) (hs : B ≤ s) (hr : ∀ k, rv.ownBlock = some k → B ≤ k) : Byt w' B A n c l :=
  ⟨h.1.below (hc.below hB hs hr), h.2⟩
/-- A row of bytes reads as bytes. -/
theorem Byt.own {w : World} {B : Nat} {e : TypeId} {A : Option Addr} {n c : Nat} {l : List Int} (h : w.ownsRow B e 1 (.slice A n c) l.length (l.map (Value.int .u8))) : Byt w w.heap.size A n c l := by
  have hn : n = l.length := by
    rcases h.2 with ⟨h1, h2⟩ | ⟨g, cap, cur, h1, _⟩
    · injection h1 with _ h3 _; omega
    · injection h1
  subst hn
  refine ⟨Reads.of_own h, ?_⟩
  rcases h.2 with ⟨h1, h2⟩ | ⟨g, cap, cur, h1, _, _, h4, _⟩
  · omega
  · injection h1 with _ _ h5; omega
theorem Post.pre {B s : Nat} {rv : Value} {w w2 : World} {o : Option MS} {e : Ending} {w' : World} (hc : Chg w w2 s rv) (hp : Post B s rv w2 o e w') : Post B s rv w o e w' :=
  ⟨hc.trans hp.chg (fun k hk => .inl hk.symm), hp.stops, fun m' h => by
    obtain ⟨h1, rv', vs', h2, h3⟩ := hp.goes m' h
    exact ⟨h1, rv', vs', h2, fun k hk => (h3 k hk).imp id (fun h => Nat.le_trans hc.size h)⟩⟩
theorem Post.same {B s : Nat} {rv : Value} {vs : List Value} {w w' : World} {m : MS} (hc : Chg w w' s rv) (hs : St w' B s m rv vs) : Post B s rv w (some m) retUnit w' :=
  .go hc rfl rfl hs (fun _ hk => .inl hk.symm)
theorem Post.none {B s : Nat} {rv : Value} {w w' : World} (hc : Chg w w' s rv) : Post B s rv w none noPanic w' := .stop hc rfl rfl
/-- 'wpStill' behind a structure: no tactic unfolds it. -/
structure WS (P : Program) (ops : Array Oper) (w : World) (Q : Act → Prop) (l : List Oper) (a : Act) : Prop where
  out : wpStill P ops w Q l a
theorem WS.step {P : Program} {ops : Array Oper} {w : World} {Q : Act → Prop} {a : Act} {o : Oper} {rest : List Oper}
    (h : ∀ K : Act → Prop, (∀ a, WS P ops w Q rest a → K a) → if Region.wanted o (yielded ops a.tmps) then o.still P a w K else K (a.put o.dst undef)) : WS P ops w Q (o :: rest) a :=
  ⟨wpStill_step fun K hK => h K fun a h => hK a h.out⟩
theorem WS.pass {P : Program} {ops : Array Oper} {w : World} {Q : Act → Prop} {a : Act} {o : Oper} {rest : List Oper} (hw : Region.wanted o (yielded ops a.tmps) = false) (hp : a.put o.dst undef = a)
    (h : WS P ops w Q rest a) : WS P ops w Q (o :: rest) a :=
  ⟨wpStill_step fun K hK => by rw [if_neg (by rw [hw]; decide), hp]; exact hK _ h.out⟩
theorem WS.nil {P : Program} {ops : Array Oper} {w : World} {Q : Act → Prop} {a : Act} (h : Q a) : WS P ops w Q [] a := ⟨h⟩
theorem WS.start {P : Program} {id : Nat} {Q : Exit → Act → World → Prop} {a : Act} {w : World} {l : List Oper} (n : Nat) (hm : P.follows .mixedOrders = true) (hB : Region.lexTailB .any l.toArray n = true)
    (h : WS P l.toArray w.drew (fun a' => wpList P l.toArray Q (l.drop n) a' w.drew) (l.take n) a) : (Code.region id l.toArray true).wp P Q a w :=
  wp_region_still_tail n hm hB h.out

set_option maxRecDepth 100000 in
set_option maxHeartbeats 1000000 in
theorem read_bad1 (w : World) (B s : Nat) (m : MS) (rv : Value) (vs : List Value) (kind lsn rl err : Int) (A : Option Addr) (n k : Nat) (A' : Option Addr) (n' k' : Nat) (h : St w B s m rv vs) (e0 : err = 0) (z1 : (rl == lsn) = false) :
    Calls Try.prog 23 #[.pointer (some ⟨s, 0, none⟩), .agg #[.int .i64 kind, .int .i64 lsn, .slice A n k], .agg #[.int .i64 err, .int .i64 rl, .slice A' n' k']] w (Post B s rv w none) := by
  have hb := boxed h (.int .i64 kind) (.int .i64 lsn) (.slice A n k) (.int .i64 err) (.int .i64 rl) (.slice A' n' k')
  clear h
  subst e0
  go_enter Try.func23, Try.ntmps23
  go_upto_region 1 with (fail)
  generalize (w.alloc _).alloc _ = w2 at hb ⊢
  generalize w.heap.size = a at hb ⊢
  generalize a + 1 = b at hb ⊢
  have p0 := hb.p.cell 0; have p1 := hb.p.cell 1; have q0 := hb.q.cell 0; have q1 := hb.q.cell 1; have q2 := hb.q.cell 2
  have s0 := hb.st.blk.cell 0; have s1 := hb.st.blk.cell 1; have s2 := hb.st.blk.cell 2; have s3 := hb.st.blk.cell 3; have s5 := hb.st.blk.cell 5
  have s6 := hb.st.blk.cell 6; have f6 := hb.st.blk.frozen 6
  simp [cells] at p0 p1 q0 q1 q2 s0 s1 s2 s3 s5 s6
  have HB := hide hb
  clear hb
  go_wp2
  refine WS.start 30 (by kernel_rfl) (by kernel_rfl) ?_
  simp only [List.take_succ_cons, List.take_zero, List.drop_succ_cons, List.drop_zero]
  iterate 5 (refine WS.step (fun K hK => ?_); go_simp; refine hK _ ?_; clear hK K)
  iterate 7 (refine WS.pass (by kernel_rfl) (by kernel_rfl) ?_)
  iterate 2 (refine WS.step (fun K hK => ?_); go_simp; refine hK _ ?_; clear hK K)
  iterate 7 (refine WS.pass (by kernel_rfl) (by kernel_rfl) ?_)
  iterate 2 (refine WS.step (fun K hK => ?_); go_simp; refine hK _ ?_; clear hK K)
  iterate 6 (refine WS.pass (by kernel_rfl) (by kernel_rfl) ?_)
  iterate 1 (refine WS.step (fun K hK => ?_); go_simp; refine hK _ ?_; clear hK K)
  refine WS.nil ?_
  go_wp2_with (first | (go_at_call 14; refine (may_false _).mono ?_; rintro e w1 ⟨rfl, rfl⟩))
  exact ⟨rfl, .none HB.out.chg.drew⟩

set_option maxRecDepth 100000 in
set_option maxHeartbeats 1000000 in
theorem read_bad2 (w : World) (B s : Nat) (m : MS) (rv : Value) (vs : List Value) (kind lsn rl err : Int) (A : Option Addr) (n k : Nat) (A' : Option Addr) (n' k' : Nat) (h : St w B s m rv vs) (e0 : err = 0) (e1 : rl = lsn) (z2 : decide (m.first ≤ rl) = false) :
    Calls Try.prog 23 #[.pointer (some ⟨s, 0, none⟩), .agg #[.int .i64 kind, .int .i64 lsn, .slice A n k], .agg #[.int .i64 err, .int .i64 rl, .slice A' n' k']] w (Post B s rv w none) := by
  have hb := boxed h (.int .i64 kind) (.int .i64 lsn) (.slice A n k) (.int .i64 err) (.int .i64 rl) (.slice A' n' k')
  clear h
  subst e0
  subst e1
  go_enter Try.func23, Try.ntmps23
  go_upto_region 1 with (fail)
  generalize (w.alloc _).alloc _ = w2 at hb ⊢
  generalize w.heap.size = a at hb ⊢
  generalize a + 1 = b at hb ⊢
  have p0 := hb.p.cell 0; have p1 := hb.p.cell 1; have q0 := hb.q.cell 0; have q1 := hb.q.cell 1; have q2 := hb.q.cell 2
  have s0 := hb.st.blk.cell 0; have s1 := hb.st.blk.cell 1; have s2 := hb.st.blk.cell 2; have s3 := hb.st.blk.cell 3; have s5 := hb.st.blk.cell 5
  have s6 := hb.st.blk.cell 6; have f6 := hb.st.blk.frozen 6
  simp [cells] at p0 p1 q0 q1 q2 s0 s1 s2 s3 s5 s6
  have HB := hide hb
  clear hb
  go_wp2
  refine WS.start 30 (by kernel_rfl) (by kernel_rfl) ?_
  simp only [List.take_succ_cons, List.take_zero, List.drop_succ_cons, List.drop_zero]
  iterate 14 (refine WS.step (fun K hK => ?_); go_simp; refine hK _ ?_; clear hK K)
  iterate 7 (refine WS.pass (by kernel_rfl) (by kernel_rfl) ?_)
  iterate 2 (refine WS.step (fun K hK => ?_); go_simp; refine hK _ ?_; clear hK K)
  iterate 6 (refine WS.pass (by kernel_rfl) (by kernel_rfl) ?_)
  iterate 1 (refine WS.step (fun K hK => ?_); go_simp; refine hK _ ?_; clear hK K)
  refine WS.nil ?_
  go_wp2_with (first | (go_at_call 14; refine (may_false _).mono ?_; rintro e w1 ⟨rfl, rfl⟩))
  exact ⟨rfl, .none HB.out.chg.drew⟩

set_option maxRecDepth 100000 in
set_option maxHeartbeats 1000000 in
theorem read_bad3 (w : World) (B s : Nat) (m : MS) (rv : Value) (vs : List Value) (kind lsn rl err : Int) (A : Option Addr) (n k : Nat) (A' : Option Addr) (n' k' : Nat) (h : St w B s m rv vs) (e0 : err = 0) (e1 : rl = lsn) (z2 : m.first ≤ rl) (z3 : decide (rl < m.next) = false) :
    Calls Try.prog 23 #[.pointer (some ⟨s, 0, none⟩), .agg #[.int .i64 kind, .int .i64 lsn, .slice A n k], .agg #[.int .i64 err, .int .i64 rl, .slice A' n' k']] w (Post B s rv w none) := by
  have hb := boxed h (.int .i64 kind) (.int .i64 lsn) (.slice A n k) (.int .i64 err) (.int .i64 rl) (.slice A' n' k')
  clear h
  subst e0
  subst e1
  go_enter Try.func23, Try.ntmps23
  go_upto_region 1 with (fail)
  generalize (w.alloc _).alloc _ = w2 at hb ⊢
  generalize w.heap.size = a at hb ⊢
  generalize a + 1 = b at hb ⊢
  have p0 := hb.p.cell 0; have p1 := hb.p.cell 1; have q0 := hb.q.cell 0; have q1 := hb.q.cell 1; have q2 := hb.q.cell 2
  have s0 := hb.st.blk.cell 0; have s1 := hb.st.blk.cell 1; have s2 := hb.st.blk.cell 2; have s3 := hb.st.blk.cell 3; have s5 := hb.st.blk.cell 5
  have s6 := hb.st.blk.cell 6; have f6 := hb.st.blk.frozen 6
  simp [cells] at p0 p1 q0 q1 q2 s0 s1 s2 s3 s5 s6
  have HB := hide hb
  clear hb
  go_wp2
  refine WS.start 30 (by kernel_rfl) (by kernel_rfl) ?_
  simp only [List.take_succ_cons, List.take_zero, List.drop_succ_cons, List.drop_zero]
  iterate 23 (refine WS.step (fun K hK => ?_); go_simp; refine hK _ ?_; clear hK K)
  iterate 6 (refine WS.pass (by kernel_rfl) (by kernel_rfl) ?_)
  iterate 1 (refine WS.step (fun K hK => ?_); go_simp; refine hK _ ?_; clear hK K)
  refine WS.nil ?_
  go_wp2_with (first | (go_at_call 14; refine (may_false _).mono ?_; rintro e w1 ⟨rfl, rfl⟩))
  exact ⟨rfl, .none HB.out.chg.drew⟩

set_option maxRecDepth 100000 in
set_option maxHeartbeats 1000000 in
theorem read_bad4 (w : World) (B s : Nat) (m : MS) (rv : Value) (vs : List Value) (kind lsn rl err : Int) (A : Option Addr) (n k : Nat) (A' : Option Addr) (n' k' : Nat) (h : St w B s m rv vs) (l : List Int) (hi : m.Inv) (hd : Byt w w.heap.size A' n' k' l) (e0 : err = 0) (e1 : rl = lsn) (h2 : m.first ≤ rl) (h3 : rl < m.next) (h4 : eqB l (m.nth rl) = false) :
    Calls Try.prog 23 #[.pointer (some ⟨s, 0, none⟩), .agg #[.int .i64 kind, .int .i64 lsn, .slice A n k], .agg #[.int .i64 err, .int .i64 rl, .slice A' n' k']] w (Post B s rv w none) := by
  have hb := boxed h (.int .i64 kind) (.int .i64 lsn) (.slice A n k) (.int .i64 err) (.int .i64 rl) (.slice A' n' k')
  have hd2 := (hd.alloc (.cells #[.int .i64 kind, .int .i64 lsn, .slice A n k] 32)).alloc (.cells #[.int .i64 err, .int .i64 rl, .slice A' n' k'] 34)
  clear hd
  subst e0
  subst e1
  have hlt : (rl - m.base).toNat < vs.length := by have := hi.num; have := h.len; have := hi.first; omega
  obtain ⟨x, hx⟩ : ∃ x, vs[(rl - m.base).toNat]? = some x := ⟨_, List.getElem?_eq_getElem hlt⟩
  obtain ⟨y, hy⟩ : ∃ y, m.recs[(rl - m.base).toNat]? = some y := ⟨_, List.getElem?_eq_getElem (by have := h.len; omega)⟩
  have hone := hb.st.one _ _ _ hx hy
  obtain ⟨A1, e1, rfl⟩ := own_slice hone
  have hbx := Byt.own hone
  have hny : m.nth rl = y := by unfold MS.nth; rw [List.getD_eq_getElem?_getD, hy]; rfl
  have hi1 : m.next ≤ top := hi.top1
  have hi2 : 1 ≤ m.base := hi.base
  have hi3 : m.base ≤ m.first := hi.first
  unfold top at hi1
  have r2 : 0 ≤ rl := by omega
  have r3 : rl < 9223372036854775807 := by omega
  rw [hny] at h4
  have HI := hide hi; have HX := hide hx; have H2 := hide h2; have H3 := hide h3; have H4 := hide h4
  clear hi hx hone hy hny hlt h h4 hi1 hi2 hi3
  go_enter Try.func23, Try.ntmps23
  go_upto_region 1 with (fail)
  generalize (w.alloc _).alloc _ = w2 at hb hd2 hbx ⊢
  generalize w.heap.size = a at hb ⊢
  generalize a + 1 = b at hb ⊢
  have p0 := hb.p.cell 0; have p1 := hb.p.cell 1; have q0 := hb.q.cell 0; have q1 := hb.q.cell 1; have q2 := hb.q.cell 2
  have s0 := hb.st.blk.cell 0; have s1 := hb.st.blk.cell 1; have s2 := hb.st.blk.cell 2; have s3 := hb.st.blk.cell 3; have s5 := hb.st.blk.cell 5
  have s6 := hb.st.blk.cell 6; have f6 := hb.st.blk.frozen 6
  simp [cells] at p0 p1 q0 q1 q2 s0 s1 s2 s3 s5 s6
  have HB := hide hb
  clear hb
  have HD := hide hd2; have HBX := hide hbx
  clear hd2 hbx
  go_wp2
  go_still_tail 30, (by kernel_rfl)
  still_call ((record_any _ B s m rv vs rl HB.out.st.drew HI.out H2.out H3.out _ HX.out).mono fun e w' ⟨h1, h2⟩ => ⟨h1, h2.symm⟩)
  still_call ((equal_any w2.drew w2.heap.size w2.heap.size _ _ _ _ _ _ l y HD.out HBX.out).mono fun e w' ⟨h1, h2⟩ => ⟨h1.trans (by rw [H4.out]), h2.symm⟩)
  repeat still_step
  refine wpStill_nil ?_
  change wpList _ _ _ _ _ w2.drew
  go_wp2_with (first | (go_at_call 14; refine (may_false _).mono ?_; rintro e w1 ⟨rfl, rfl⟩))
  exact ⟨rfl, .none HB.out.chg.drew⟩

set_option maxRecDepth 100000 in
set_option maxHeartbeats 1000000 in
theorem read_go1 (w : World) (B s : Nat) (m : MS) (rv : Value) (vs : List Value) (kind lsn rl err : Int) (A : Option Addr) (n k : Nat) (A' : Option Addr) (n' k' : Nat) (h : St w B s m rv vs) (l : List Int) (hi : m.Inv) (hd : Byt w w.heap.size A' n' k' l) (e0 : err = 0) (e1 : rl = lsn) (h2 : m.first ≤ rl) (h3 : rl < m.next) (h4 : eqB l (m.nth rl) = true) (hR : m.raise (rl + 1) = none) :
    Calls Try.prog 23 #[.pointer (some ⟨s, 0, none⟩), .agg #[.int .i64 kind, .int .i64 lsn, .slice A n k], .agg #[.int .i64 err, .int .i64 rl, .slice A' n' k']] w (Post B s rv w (m.raise (rl + 1))) := by
  have R := hide hR
  clear hR
  have hb := boxed h (.int .i64 kind) (.int .i64 lsn) (.slice A n k) (.int .i64 err) (.int .i64 rl) (.slice A' n' k')
  have hd2 := (hd.alloc (.cells #[.int .i64 kind, .int .i64 lsn, .slice A n k] 32)).alloc (.cells #[.int .i64 err, .int .i64 rl, .slice A' n' k'] 34)
  clear hd
  subst e0
  subst e1
  have hlt : (rl - m.base).toNat < vs.length := by have := hi.num; have := h.len; have := hi.first; omega
  obtain ⟨x, hx⟩ : ∃ x, vs[(rl - m.base).toNat]? = some x := ⟨_, List.getElem?_eq_getElem hlt⟩
  obtain ⟨y, hy⟩ : ∃ y, m.recs[(rl - m.base).toNat]? = some y := ⟨_, List.getElem?_eq_getElem (by have := h.len; omega)⟩
  have hone := hb.st.one _ _ _ hx hy
  obtain ⟨A1, e1, rfl⟩ := own_slice hone
  have hbx := Byt.own hone
  have hny : m.nth rl = y := by unfold MS.nth; rw [List.getD_eq_getElem?_getD, hy]; rfl
  have hi1 : m.next ≤ top := hi.top1
  have hi2 : 1 ≤ m.base := hi.base
  have hi3 : m.base ≤ m.first := hi.first
  unfold top at hi1
  have r2 : 0 ≤ rl := by omega
  have r3 : rl < 9223372036854775807 := by omega
  rw [hny] at h4
  have HI := hide hi; have HX := hide hx; have H2 := hide h2; have H3 := hide h3; have H4 := hide h4
  clear hi hx hone hy hny hlt h h4 hi1 hi2 hi3
  go_enter Try.func23, Try.ntmps23
  go_upto_region 1 with (fail)
  generalize (w.alloc _).alloc _ = w2 at hb hd2 hbx ⊢
  generalize w.heap.size = a at hb ⊢
  generalize a + 1 = b at hb ⊢
  have p0 := hb.p.cell 0; have p1 := hb.p.cell 1; have q0 := hb.q.cell 0; have q1 := hb.q.cell 1; have q2 := hb.q.cell 2
  have s0 := hb.st.blk.cell 0; have s1 := hb.st.blk.cell 1; have s2 := hb.st.blk.cell 2; have s3 := hb.st.blk.cell 3; have s5 := hb.st.blk.cell 5
  have s6 := hb.st.blk.cell 6; have f6 := hb.st.blk.frozen 6
  simp [cells] at p0 p1 q0 q1 q2 s0 s1 s2 s3 s5 s6
  have HB := hide hb
  clear hb
  have HD := hide hd2; have HBX := hide hbx
  clear hd2 hbx
  go_wp2
  go_still_tail 30, (by kernel_rfl)
  still_call ((record_any _ B s m rv vs rl HB.out.st.drew HI.out H2.out H3.out _ HX.out).mono fun e w' ⟨h1, h2⟩ => ⟨h1, h2.symm⟩)
  still_call ((equal_any w2.drew w2.heap.size w2.heap.size _ _ _ _ _ _ l y HD.out HBX.out).mono fun e w' ⟨h1, h2⟩ => ⟨h1.trans (by rw [H4.out]), h2.symm⟩)
  repeat still_step
  refine wpStill_nil ?_
  change wpList _ _ _ _ _ w2.drew
  go_wp2_with (first | (go_at_call 14; refine (may_true _).mono ?_; rintro e w1 ⟨rfl, rfl⟩) | (go_at_call 27; refine (raise_any _ B s m rv vs _ HB.out.st.drew).mono ?_; rintro e w1 hP; obtain rfl := hP.stops R.out; have HP := hide hP; clear hP))
  exact ⟨rfl, HP.out.pre HB.out.chg.drew⟩

set_option maxRecDepth 100000 in
set_option maxHeartbeats 1000000 in
theorem read_go2 (w : World) (B s : Nat) (m : MS) (rv : Value) (vs : List Value) (kind lsn rl err : Int) (A : Option Addr) (n k : Nat) (A' : Option Addr) (n' k' : Nat) (h : St w B s m rv vs) (l : List Int) (hi : m.Inv) (hd : Byt w w.heap.size A' n' k' l) (e0 : err = 0) (e1 : rl = lsn) (h2 : m.first ≤ rl) (h3 : rl < m.next) (h4 : eqB l (m.nth rl) = true) (m1 : MS) (hR : m.raise (rl + 1) = some m1) :
    Calls Try.prog 23 #[.pointer (some ⟨s, 0, none⟩), .agg #[.int .i64 kind, .int .i64 lsn, .slice A n k], .agg #[.int .i64 err, .int .i64 rl, .slice A' n' k']] w (Post B s rv w (m.raise (rl + 1))) := by
  have R := hide hR
  clear hR
  have hb := boxed h (.int .i64 kind) (.int .i64 lsn) (.slice A n k) (.int .i64 err) (.int .i64 rl) (.slice A' n' k')
  have hd2 := (hd.alloc (.cells #[.int .i64 kind, .int .i64 lsn, .slice A n k] 32)).alloc (.cells #[.int .i64 err, .int .i64 rl, .slice A' n' k'] 34)
  clear hd
  subst e0
  subst e1
  have hlt : (rl - m.base).toNat < vs.length := by have := hi.num; have := h.len; have := hi.first; omega
  obtain ⟨x, hx⟩ : ∃ x, vs[(rl - m.base).toNat]? = some x := ⟨_, List.getElem?_eq_getElem hlt⟩
  obtain ⟨y, hy⟩ : ∃ y, m.recs[(rl - m.base).toNat]? = some y := ⟨_, List.getElem?_eq_getElem (by have := h.len; omega)⟩
  have hone := hb.st.one _ _ _ hx hy
  obtain ⟨A1, e1, rfl⟩ := own_slice hone
  have hbx := Byt.own hone
  have hny : m.nth rl = y := by unfold MS.nth; rw [List.getD_eq_getElem?_getD, hy]; rfl
  have hi1 : m.next ≤ top := hi.top1
  have hi2 : 1 ≤ m.base := hi.base
  have hi3 : m.base ≤ m.first := hi.first
  unfold top at hi1
  have r2 : 0 ≤ rl := by omega
  have r3 : rl < 9223372036854775807 := by omega
  rw [hny] at h4
  have HI := hide hi; have HX := hide hx; have H2 := hide h2; have H3 := hide h3; have H4 := hide h4
  clear hi hx hone hy hny hlt h h4 hi1 hi2 hi3
  go_enter Try.func23, Try.ntmps23
  go_upto_region 1 with (fail)
  generalize (w.alloc _).alloc _ = w2 at hb hd2 hbx ⊢
  generalize w.heap.size = a at hb ⊢
  generalize a + 1 = b at hb ⊢
  have p0 := hb.p.cell 0; have p1 := hb.p.cell 1; have q0 := hb.q.cell 0; have q1 := hb.q.cell 1; have q2 := hb.q.cell 2
  have s0 := hb.st.blk.cell 0; have s1 := hb.st.blk.cell 1; have s2 := hb.st.blk.cell 2; have s3 := hb.st.blk.cell 3; have s5 := hb.st.blk.cell 5
  have s6 := hb.st.blk.cell 6; have f6 := hb.st.blk.frozen 6
  simp [cells] at p0 p1 q0 q1 q2 s0 s1 s2 s3 s5 s6
  have HB := hide hb
  clear hb
  have HD := hide hd2; have HBX := hide hbx
  clear hd2 hbx
  go_wp2
  go_still_tail 30, (by kernel_rfl)
  still_call ((record_any _ B s m rv vs rl HB.out.st.drew HI.out H2.out H3.out _ HX.out).mono fun e w' ⟨h1, h2⟩ => ⟨h1, h2.symm⟩)
  still_call ((equal_any w2.drew w2.heap.size w2.heap.size _ _ _ _ _ _ l y HD.out HBX.out).mono fun e w' ⟨h1, h2⟩ => ⟨h1.trans (by rw [H4.out]), h2.symm⟩)
  repeat still_step
  refine wpStill_nil ?_
  change wpList _ _ _ _ _ w2.drew
  go_wp2_with (first | (go_at_call 14; refine (may_true _).mono ?_; rintro e w1 ⟨rfl, rfl⟩) | (go_at_call 27; refine (raise_any _ B s m rv vs _ HB.out.st.drew).mono ?_; rintro e w1 hP; obtain ⟨rfl, -⟩ := hP.goes _ R.out; have HP := hide hP; clear hP))
  go_end0
  exact HP.out.pre HB.out.chg.drew

/- Read, Next: an error. -/

set_option maxRecDepth 100000 in
set_option maxHeartbeats 1000000 in
theorem read_e0 (w : World) (B s : Nat) (m : MS) (rv : Value) (vs : List Value) (kind lsn rl err : Int) (A : Option Addr) (n k : Nat) (A' : Option Addr) (n' k' : Nat) (h : St w B s m rv vs) (e0 : (err == 0) = false) (e1 : (rl == 0) = false) :
    Calls Try.prog 23 #[.pointer (some ⟨s, 0, none⟩), .agg #[.int .i64 kind, .int .i64 lsn, .slice A n k], .agg #[.int .i64 err, .int .i64 rl, .slice A' n' k']] w (Post B s rv w none) := by
  have hb := boxed h (.int .i64 kind) (.int .i64 lsn) (.slice A n k) (.int .i64 err) (.int .i64 rl) (.slice A' n' k')
  clear h
  go_enter Try.func23, Try.ntmps23
  go_upto_region 1 with (fail)
  generalize (w.alloc _).alloc _ = w2 at hb ⊢
  generalize w.heap.size = a at hb ⊢
  generalize a + 1 = b at hb ⊢
  have p0 := hb.p.cell 0; have p1 := hb.p.cell 1; have q0 := hb.q.cell 0; have q1 := hb.q.cell 1; have q2 := hb.q.cell 2
  have s0 := hb.st.blk.cell 0; have s1 := hb.st.blk.cell 1; have s2 := hb.st.blk.cell 2; have s3 := hb.st.blk.cell 3; have s5 := hb.st.blk.cell 5
  have s6 := hb.st.blk.cell 6; have f6 := hb.st.blk.frozen 6
  simp [cells] at p0 p1 q0 q1 q2 s0 s1 s2 s3 s5 s6
  have HB := hide hb
  clear hb
  go_wp2_with (first | (go_at_call 14; first | (refine (may_true _).mono ?_; rintro e w1 ⟨rfl, rfl⟩) | (refine (may_false _).mono ?_; rintro e w1 ⟨rfl, rfl⟩)))
  exact ⟨rfl, .none HB.out.chg⟩

set_option maxRecDepth 100000 in
set_option maxHeartbeats 1000000 in
theorem read_e43a (w : World) (B s : Nat) (m : MS) (rv : Value) (vs : List Value) (kind lsn rl err : Int) (A : Option Addr) (n k : Nat) (A' : Option Addr) (n' k' : Nat) (h : St w B s m rv vs) (e0 : err = 43) (e1 : rl = 0) (e2 : lsn < m.first) :
    Calls Try.prog 23 #[.pointer (some ⟨s, 0, none⟩), .agg #[.int .i64 kind, .int .i64 lsn, .slice A n k], .agg #[.int .i64 err, .int .i64 rl, .slice A' n' k']] w (Post B s rv w (some m)) := by
  have hb := boxed h (.int .i64 kind) (.int .i64 lsn) (.slice A n k) (.int .i64 err) (.int .i64 rl) (.slice A' n' k')
  clear h
  subst e0 e1
  go_enter Try.func23, Try.ntmps23
  go_upto_region 1 with (fail)
  generalize (w.alloc _).alloc _ = w2 at hb ⊢
  generalize w.heap.size = a at hb ⊢
  generalize a + 1 = b at hb ⊢
  have p0 := hb.p.cell 0; have p1 := hb.p.cell 1; have q0 := hb.q.cell 0; have q1 := hb.q.cell 1; have q2 := hb.q.cell 2
  have s0 := hb.st.blk.cell 0; have s1 := hb.st.blk.cell 1; have s2 := hb.st.blk.cell 2; have s3 := hb.st.blk.cell 3; have s5 := hb.st.blk.cell 5
  have s6 := hb.st.blk.cell 6; have f6 := hb.st.blk.frozen 6
  simp [cells] at p0 p1 q0 q1 q2 s0 s1 s2 s3 s5 s6
  have HB := hide hb
  clear hb
  go_wp2_with (first | (go_at_call 14; first | (refine (may_true _).mono ?_; rintro e w1 ⟨rfl, rfl⟩) | (refine (may_false _).mono ?_; rintro e w1 ⟨rfl, rfl⟩)))
  go_end0
  exact .same HB.out.chg HB.out.st

set_option maxRecDepth 100000 in
set_option maxHeartbeats 1000000 in
theorem read_e43b (w : World) (B s : Nat) (m : MS) (rv : Value) (vs : List Value) (kind lsn rl err : Int) (A : Option Addr) (n k : Nat) (A' : Option Addr) (n' k' : Nat) (h : St w B s m rv vs) (e0 : err = 43) (e1 : rl = 0) (e2 : decide (lsn < m.first) = false) :
    Calls Try.prog 23 #[.pointer (some ⟨s, 0, none⟩), .agg #[.int .i64 kind, .int .i64 lsn, .slice A n k], .agg #[.int .i64 err, .int .i64 rl, .slice A' n' k']] w (Post B s rv w none) := by
  have hb := boxed h (.int .i64 kind) (.int .i64 lsn) (.slice A n k) (.int .i64 err) (.int .i64 rl) (.slice A' n' k')
  clear h
  subst e0 e1
  go_enter Try.func23, Try.ntmps23
  go_upto_region 1 with (fail)
  generalize (w.alloc _).alloc _ = w2 at hb ⊢
  generalize w.heap.size = a at hb ⊢
  generalize a + 1 = b at hb ⊢
  have p0 := hb.p.cell 0; have p1 := hb.p.cell 1; have q0 := hb.q.cell 0; have q1 := hb.q.cell 1; have q2 := hb.q.cell 2
  have s0 := hb.st.blk.cell 0; have s1 := hb.st.blk.cell 1; have s2 := hb.st.blk.cell 2; have s3 := hb.st.blk.cell 3; have s5 := hb.st.blk.cell 5
  have s6 := hb.st.blk.cell 6; have f6 := hb.st.blk.frozen 6
  simp [cells] at p0 p1 q0 q1 q2 s0 s1 s2 s3 s5 s6
  have HB := hide hb
  clear hb
  go_wp2_with (first | (go_at_call 14; first | (refine (may_true _).mono ?_; rintro e w1 ⟨rfl, rfl⟩) | (refine (may_false _).mono ?_; rintro e w1 ⟨rfl, rfl⟩)))
  exact ⟨rfl, .none HB.out.chg⟩

set_option maxRecDepth 100000 in
set_option maxHeartbeats 1000000 in
theorem read_e22a (w : World) (B s : Nat) (m : MS) (rv : Value) (vs : List Value) (kind lsn rl err : Int) (A : Option Addr) (n k : Nat) (A' : Option Addr) (n' k' : Nat) (h : St w B s m rv vs) (e0 : err = 22) (e1 : rl = 0) (e2 : m.first ≤ lsn) (e3 : lsn < m.next) :
    Calls Try.prog 23 #[.pointer (some ⟨s, 0, none⟩), .agg #[.int .i64 kind, .int .i64 lsn, .slice A n k], .agg #[.int .i64 err, .int .i64 rl, .slice A' n' k']] w (Post B s rv w (some m)) := by
  have hb := boxed h (.int .i64 kind) (.int .i64 lsn) (.slice A n k) (.int .i64 err) (.int .i64 rl) (.slice A' n' k')
  clear h
  subst e0 e1
  go_enter Try.func23, Try.ntmps23
  go_upto_region 1 with (fail)
  generalize (w.alloc _).alloc _ = w2 at hb ⊢
  generalize w.heap.size = a at hb ⊢
  generalize a + 1 = b at hb ⊢
  have p0 := hb.p.cell 0; have p1 := hb.p.cell 1; have q0 := hb.q.cell 0; have q1 := hb.q.cell 1; have q2 := hb.q.cell 2
  have s0 := hb.st.blk.cell 0; have s1 := hb.st.blk.cell 1; have s2 := hb.st.blk.cell 2; have s3 := hb.st.blk.cell 3; have s5 := hb.st.blk.cell 5
  have s6 := hb.st.blk.cell 6; have f6 := hb.st.blk.frozen 6
  simp [cells] at p0 p1 q0 q1 q2 s0 s1 s2 s3 s5 s6
  have HB := hide hb
  clear hb
  go_wp2_with (first | (go_at_call 14; first | (refine (may_true _).mono ?_; rintro e w1 ⟨rfl, rfl⟩) | (refine (may_false _).mono ?_; rintro e w1 ⟨rfl, rfl⟩)))
  go_end0
  exact .same HB.out.chg HB.out.st

set_option maxRecDepth 100000 in
set_option maxHeartbeats 1000000 in
theorem read_e22b (w : World) (B s : Nat) (m : MS) (rv : Value) (vs : List Value) (kind lsn rl err : Int) (A : Option Addr) (n k : Nat) (A' : Option Addr) (n' k' : Nat) (h : St w B s m rv vs) (e0 : err = 22) (e1 : rl = 0) (e2 : decide (m.first ≤ lsn) = false) :
    Calls Try.prog 23 #[.pointer (some ⟨s, 0, none⟩), .agg #[.int .i64 kind, .int .i64 lsn, .slice A n k], .agg #[.int .i64 err, .int .i64 rl, .slice A' n' k']] w (Post B s rv w none) := by
  have hb := boxed h (.int .i64 kind) (.int .i64 lsn) (.slice A n k) (.int .i64 err) (.int .i64 rl) (.slice A' n' k')
  clear h
  subst e0 e1
  go_enter Try.func23, Try.ntmps23
  go_upto_region 1 with (fail)
  generalize (w.alloc _).alloc _ = w2 at hb ⊢
  generalize w.heap.size = a at hb ⊢
  generalize a + 1 = b at hb ⊢
  have p0 := hb.p.cell 0; have p1 := hb.p.cell 1; have q0 := hb.q.cell 0; have q1 := hb.q.cell 1; have q2 := hb.q.cell 2
  have s0 := hb.st.blk.cell 0; have s1 := hb.st.blk.cell 1; have s2 := hb.st.blk.cell 2; have s3 := hb.st.blk.cell 3; have s5 := hb.st.blk.cell 5
  have s6 := hb.st.blk.cell 6; have f6 := hb.st.blk.frozen 6
  simp [cells] at p0 p1 q0 q1 q2 s0 s1 s2 s3 s5 s6
  have HB := hide hb
  clear hb
  go_wp2_with (first | (go_at_call 14; first | (refine (may_true _).mono ?_; rintro e w1 ⟨rfl, rfl⟩) | (refine (may_false _).mono ?_; rintro e w1 ⟨rfl, rfl⟩)))
  exact ⟨rfl, .none HB.out.chg⟩

set_option maxRecDepth 100000 in
set_option maxHeartbeats 1000000 in
theorem read_e22c (w : World) (B s : Nat) (m : MS) (rv : Value) (vs : List Value) (kind lsn rl err : Int) (A : Option Addr) (n k : Nat) (A' : Option Addr) (n' k' : Nat) (h : St w B s m rv vs) (e0 : err = 22) (e1 : rl = 0) (e2 : m.first ≤ lsn) (e3 : decide (lsn < m.next) = false) :
    Calls Try.prog 23 #[.pointer (some ⟨s, 0, none⟩), .agg #[.int .i64 kind, .int .i64 lsn, .slice A n k], .agg #[.int .i64 err, .int .i64 rl, .slice A' n' k']] w (Post B s rv w none) := by
  have hb := boxed h (.int .i64 kind) (.int .i64 lsn) (.slice A n k) (.int .i64 err) (.int .i64 rl) (.slice A' n' k')
  clear h
  subst e0 e1
  go_enter Try.func23, Try.ntmps23
  go_upto_region 1 with (fail)
  generalize (w.alloc _).alloc _ = w2 at hb ⊢
  generalize w.heap.size = a at hb ⊢
  generalize a + 1 = b at hb ⊢
  have p0 := hb.p.cell 0; have p1 := hb.p.cell 1; have q0 := hb.q.cell 0; have q1 := hb.q.cell 1; have q2 := hb.q.cell 2
  have s0 := hb.st.blk.cell 0; have s1 := hb.st.blk.cell 1; have s2 := hb.st.blk.cell 2; have s3 := hb.st.blk.cell 3; have s5 := hb.st.blk.cell 5
  have s6 := hb.st.blk.cell 6; have f6 := hb.st.blk.frozen 6
  simp [cells] at p0 p1 q0 q1 q2 s0 s1 s2 s3 s5 s6
  have HB := hide hb
  clear hb
  go_wp2_with (first | (go_at_call 14; first | (refine (may_true _).mono ?_; rintro e w1 ⟨rfl, rfl⟩) | (refine (may_false _).mono ?_; rintro e w1 ⟨rfl, rfl⟩)))
  exact ⟨rfl, .none HB.out.chg⟩

set_option maxRecDepth 100000 in
set_option maxHeartbeats 1000000 in
theorem read_e42a (w : World) (B s : Nat) (m : MS) (rv : Value) (vs : List Value) (kind lsn rl err : Int) (A : Option Addr) (n k : Nat) (A' : Option Addr) (n' k' : Nat) (h : St w B s m rv vs) (e0 : err = 42) (e1 : rl = 0) (ek : kind = 4) (e2 : m.durable ≤ lsn) (e3 : m.first ≤ lsn) :
    Calls Try.prog 23 #[.pointer (some ⟨s, 0, none⟩), .agg #[.int .i64 kind, .int .i64 lsn, .slice A n k], .agg #[.int .i64 err, .int .i64 rl, .slice A' n' k']] w (Post B s rv w (some m)) := by
  have hb := boxed h (.int .i64 kind) (.int .i64 lsn) (.slice A n k) (.int .i64 err) (.int .i64 rl) (.slice A' n' k')
  clear h
  subst e0 e1 ek
  go_enter Try.func23, Try.ntmps23
  go_upto_region 1 with (fail)
  generalize (w.alloc _).alloc _ = w2 at hb ⊢
  generalize w.heap.size = a at hb ⊢
  generalize a + 1 = b at hb ⊢
  have p0 := hb.p.cell 0; have p1 := hb.p.cell 1; have q0 := hb.q.cell 0; have q1 := hb.q.cell 1; have q2 := hb.q.cell 2
  have s0 := hb.st.blk.cell 0; have s1 := hb.st.blk.cell 1; have s2 := hb.st.blk.cell 2; have s3 := hb.st.blk.cell 3; have s5 := hb.st.blk.cell 5
  have s6 := hb.st.blk.cell 6; have f6 := hb.st.blk.frozen 6
  simp [cells] at p0 p1 q0 q1 q2 s0 s1 s2 s3 s5 s6
  have HB := hide hb
  clear hb
  go_wp2_with (first | (go_at_call 14; first | (refine (may_true _).mono ?_; rintro e w1 ⟨rfl, rfl⟩) | (refine (may_false _).mono ?_; rintro e w1 ⟨rfl, rfl⟩)))
  go_end0
  exact .same HB.out.chg HB.out.st

set_option maxRecDepth 100000 in
set_option maxHeartbeats 1000000 in
theorem read_e42b (w : World) (B s : Nat) (m : MS) (rv : Value) (vs : List Value) (kind lsn rl err : Int) (A : Option Addr) (n k : Nat) (A' : Option Addr) (n' k' : Nat) (h : St w B s m rv vs) (e0 : err = 42) (e1 : rl = 0) (ek : kind = 4) (e2 : decide (m.durable ≤ lsn) = false) :
    Calls Try.prog 23 #[.pointer (some ⟨s, 0, none⟩), .agg #[.int .i64 kind, .int .i64 lsn, .slice A n k], .agg #[.int .i64 err, .int .i64 rl, .slice A' n' k']] w (Post B s rv w none) := by
  have hb := boxed h (.int .i64 kind) (.int .i64 lsn) (.slice A n k) (.int .i64 err) (.int .i64 rl) (.slice A' n' k')
  clear h
  subst e0 e1 ek
  go_enter Try.func23, Try.ntmps23
  go_upto_region 1 with (fail)
  generalize (w.alloc _).alloc _ = w2 at hb ⊢
  generalize w.heap.size = a at hb ⊢
  generalize a + 1 = b at hb ⊢
  have p0 := hb.p.cell 0; have p1 := hb.p.cell 1; have q0 := hb.q.cell 0; have q1 := hb.q.cell 1; have q2 := hb.q.cell 2
  have s0 := hb.st.blk.cell 0; have s1 := hb.st.blk.cell 1; have s2 := hb.st.blk.cell 2; have s3 := hb.st.blk.cell 3; have s5 := hb.st.blk.cell 5
  have s6 := hb.st.blk.cell 6; have f6 := hb.st.blk.frozen 6
  simp [cells] at p0 p1 q0 q1 q2 s0 s1 s2 s3 s5 s6
  have HB := hide hb
  clear hb
  go_wp2_with (first | (go_at_call 14; first | (refine (may_true _).mono ?_; rintro e w1 ⟨rfl, rfl⟩) | (refine (may_false _).mono ?_; rintro e w1 ⟨rfl, rfl⟩)))
  exact ⟨rfl, .none HB.out.chg⟩

set_option maxRecDepth 100000 in
set_option maxHeartbeats 1000000 in
theorem read_e42c (w : World) (B s : Nat) (m : MS) (rv : Value) (vs : List Value) (kind lsn rl err : Int) (A : Option Addr) (n k : Nat) (A' : Option Addr) (n' k' : Nat) (h : St w B s m rv vs) (e0 : err = 42) (e1 : rl = 0) (ek : kind = 4) (e2 : m.durable ≤ lsn) (e3 : decide (m.first ≤ lsn) = false) :
    Calls Try.prog 23 #[.pointer (some ⟨s, 0, none⟩), .agg #[.int .i64 kind, .int .i64 lsn, .slice A n k], .agg #[.int .i64 err, .int .i64 rl, .slice A' n' k']] w (Post B s rv w none) := by
  have hb := boxed h (.int .i64 kind) (.int .i64 lsn) (.slice A n k) (.int .i64 err) (.int .i64 rl) (.slice A' n' k')
  clear h
  subst e0 e1 ek
  go_enter Try.func23, Try.ntmps23
  go_upto_region 1 with (fail)
  generalize (w.alloc _).alloc _ = w2 at hb ⊢
  generalize w.heap.size = a at hb ⊢
  generalize a + 1 = b at hb ⊢
  have p0 := hb.p.cell 0; have p1 := hb.p.cell 1; have q0 := hb.q.cell 0; have q1 := hb.q.cell 1; have q2 := hb.q.cell 2
  have s0 := hb.st.blk.cell 0; have s1 := hb.st.blk.cell 1; have s2 := hb.st.blk.cell 2; have s3 := hb.st.blk.cell 3; have s5 := hb.st.blk.cell 5
  have s6 := hb.st.blk.cell 6; have f6 := hb.st.blk.frozen 6
  simp [cells] at p0 p1 q0 q1 q2 s0 s1 s2 s3 s5 s6
  have HB := hide hb
  clear hb
  go_wp2_with (first | (go_at_call 14; first | (refine (may_true _).mono ?_; rintro e w1 ⟨rfl, rfl⟩) | (refine (may_false _).mono ?_; rintro e w1 ⟨rfl, rfl⟩)))
  exact ⟨rfl, .none HB.out.chg⟩

set_option maxRecDepth 100000 in
set_option maxHeartbeats 1000000 in
theorem read_e42d (w : World) (B s : Nat) (m : MS) (rv : Value) (vs : List Value) (kind lsn rl err : Int) (A : Option Addr) (n k : Nat) (A' : Option Addr) (n' k' : Nat) (h : St w B s m rv vs) (e0 : err = 42) (e1 : rl = 0) (ek : (kind == 4) = false) :
    Calls Try.prog 23 #[.pointer (some ⟨s, 0, none⟩), .agg #[.int .i64 kind, .int .i64 lsn, .slice A n k], .agg #[.int .i64 err, .int .i64 rl, .slice A' n' k']] w (Post B s rv w none) := by
  have hb := boxed h (.int .i64 kind) (.int .i64 lsn) (.slice A n k) (.int .i64 err) (.int .i64 rl) (.slice A' n' k')
  clear h
  subst e0 e1
  go_enter Try.func23, Try.ntmps23
  go_upto_region 1 with (fail)
  generalize (w.alloc _).alloc _ = w2 at hb ⊢
  generalize w.heap.size = a at hb ⊢
  generalize a + 1 = b at hb ⊢
  have p0 := hb.p.cell 0; have p1 := hb.p.cell 1; have q0 := hb.q.cell 0; have q1 := hb.q.cell 1; have q2 := hb.q.cell 2
  have s0 := hb.st.blk.cell 0; have s1 := hb.st.blk.cell 1; have s2 := hb.st.blk.cell 2; have s3 := hb.st.blk.cell 3; have s5 := hb.st.blk.cell 5
  have s6 := hb.st.blk.cell 6; have f6 := hb.st.blk.frozen 6
  simp [cells] at p0 p1 q0 q1 q2 s0 s1 s2 s3 s5 s6
  have HB := hide hb
  clear hb
  go_wp2_with (first | (go_at_call 14; first | (refine (may_true _).mono ?_; rintro e w1 ⟨rfl, rfl⟩) | (refine (may_false _).mono ?_; rintro e w1 ⟨rfl, rfl⟩)))
  exact ⟨rfl, .none HB.out.chg⟩

set_option maxRecDepth 100000 in
set_option maxHeartbeats 1000000 in
theorem read_e40a (w : World) (B s : Nat) (m : MS) (rv : Value) (vs : List Value) (kind lsn rl err : Int) (A : Option Addr) (n k : Nat) (A' : Option Addr) (n' k' : Nat) (h : St w B s m rv vs) (e0 : err = 40) (e1 : rl = 0) (ek : kind = 5) (e2 : m.durable ≤ lsn) :
    Calls Try.prog 23 #[.pointer (some ⟨s, 0, none⟩), .agg #[.int .i64 kind, .int .i64 lsn, .slice A n k], .agg #[.int .i64 err, .int .i64 rl, .slice A' n' k']] w (Post B s rv w (some m.fail)) := by
  have hb := boxed h (.int .i64 kind) (.int .i64 lsn) (.slice A n k) (.int .i64 err) (.int .i64 rl) (.slice A' n' k')
  clear h
  subst e0 e1 ek
  go_enter Try.func23, Try.ntmps23
  go_upto_region 1 with (fail)
  generalize (w.alloc _).alloc _ = w2 at hb ⊢
  generalize w.heap.size = a at hb ⊢
  generalize a + 1 = b at hb ⊢
  have p0 := hb.p.cell 0; have p1 := hb.p.cell 1; have q0 := hb.q.cell 0; have q1 := hb.q.cell 1; have q2 := hb.q.cell 2
  have s0 := hb.st.blk.cell 0; have s1 := hb.st.blk.cell 1; have s2 := hb.st.blk.cell 2; have s3 := hb.st.blk.cell 3; have s5 := hb.st.blk.cell 5
  have s6 := hb.st.blk.cell 6; have f6 := hb.st.blk.frozen 6
  simp [cells] at p0 p1 q0 q1 q2 s0 s1 s2 s3 s5 s6
  have HB := hide hb
  clear hb
  go_wp2_with (first | (go_at_call 14; first | (refine (may_true _).mono ?_; rintro e w1 ⟨rfl, rfl⟩) | (refine (may_false _).mono ?_; rintro e w1 ⟨rfl, rfl⟩)))
  go_end0
  exact .same (HB.out.chg.setCell (p := ⟨s, 6, none⟩) (.inl rfl) _) (HB.out.st.set 6 _ (by simp [cells, MS.fail]) rfl)

set_option maxRecDepth 100000 in
set_option maxHeartbeats 1000000 in
theorem read_e40b (w : World) (B s : Nat) (m : MS) (rv : Value) (vs : List Value) (kind lsn rl err : Int) (A : Option Addr) (n k : Nat) (A' : Option Addr) (n' k' : Nat) (h : St w B s m rv vs) (e0 : err = 40) (e1 : rl = 0) (ek : kind = 5) (e2 : decide (m.durable ≤ lsn) = false) :
    Calls Try.prog 23 #[.pointer (some ⟨s, 0, none⟩), .agg #[.int .i64 kind, .int .i64 lsn, .slice A n k], .agg #[.int .i64 err, .int .i64 rl, .slice A' n' k']] w (Post B s rv w none) := by
  have hb := boxed h (.int .i64 kind) (.int .i64 lsn) (.slice A n k) (.int .i64 err) (.int .i64 rl) (.slice A' n' k')
  clear h
  subst e0 e1 ek
  go_enter Try.func23, Try.ntmps23
  go_upto_region 1 with (fail)
  generalize (w.alloc _).alloc _ = w2 at hb ⊢
  generalize w.heap.size = a at hb ⊢
  generalize a + 1 = b at hb ⊢
  have p0 := hb.p.cell 0; have p1 := hb.p.cell 1; have q0 := hb.q.cell 0; have q1 := hb.q.cell 1; have q2 := hb.q.cell 2
  have s0 := hb.st.blk.cell 0; have s1 := hb.st.blk.cell 1; have s2 := hb.st.blk.cell 2; have s3 := hb.st.blk.cell 3; have s5 := hb.st.blk.cell 5
  have s6 := hb.st.blk.cell 6; have f6 := hb.st.blk.frozen 6
  simp [cells] at p0 p1 q0 q1 q2 s0 s1 s2 s3 s5 s6
  have HB := hide hb
  clear hb
  go_wp2_with (first | (go_at_call 14; first | (refine (may_true _).mono ?_; rintro e w1 ⟨rfl, rfl⟩) | (refine (may_false _).mono ?_; rintro e w1 ⟨rfl, rfl⟩)))
  exact ⟨rfl, .none HB.out.chg⟩

set_option maxRecDepth 100000 in
set_option maxHeartbeats 1000000 in
theorem read_e40c (w : World) (B s : Nat) (m : MS) (rv : Value) (vs : List Value) (kind lsn rl err : Int) (A : Option Addr) (n k : Nat) (A' : Option Addr) (n' k' : Nat) (h : St w B s m rv vs) (e0 : err = 40) (e1 : rl = 0) (ek : (kind == 5) = false) :
    Calls Try.prog 23 #[.pointer (some ⟨s, 0, none⟩), .agg #[.int .i64 kind, .int .i64 lsn, .slice A n k], .agg #[.int .i64 err, .int .i64 rl, .slice A' n' k']] w (Post B s rv w none) := by
  have hb := boxed h (.int .i64 kind) (.int .i64 lsn) (.slice A n k) (.int .i64 err) (.int .i64 rl) (.slice A' n' k')
  clear h
  subst e0 e1
  go_enter Try.func23, Try.ntmps23
  go_upto_region 1 with (fail)
  generalize (w.alloc _).alloc _ = w2 at hb ⊢
  generalize w.heap.size = a at hb ⊢
  generalize a + 1 = b at hb ⊢
  have p0 := hb.p.cell 0; have p1 := hb.p.cell 1; have q0 := hb.q.cell 0; have q1 := hb.q.cell 1; have q2 := hb.q.cell 2
  have s0 := hb.st.blk.cell 0; have s1 := hb.st.blk.cell 1; have s2 := hb.st.blk.cell 2; have s3 := hb.st.blk.cell 3; have s5 := hb.st.blk.cell 5
  have s6 := hb.st.blk.cell 6; have f6 := hb.st.blk.frozen 6
  simp [cells] at p0 p1 q0 q1 q2 s0 s1 s2 s3 s5 s6
  have HB := hide hb
  clear hb
  go_wp2_with (first | (go_at_call 14; first | (refine (may_true _).mono ?_; rintro e w1 ⟨rfl, rfl⟩) | (refine (may_false _).mono ?_; rintro e w1 ⟨rfl, rfl⟩)))
  exact ⟨rfl, .none HB.out.chg⟩

set_option maxRecDepth 100000 in
set_option maxHeartbeats 1000000 in
theorem read_ex (w : World) (B s : Nat) (m : MS) (rv : Value) (vs : List Value) (kind lsn rl err : Int) (A : Option Addr) (n k : Nat) (A' : Option Addr) (n' k' : Nat) (h : St w B s m rv vs) (e0 : (err == 0) = false) (e43 : (err == 43) = false) (e22 : (err == 22) = false) (e42 : (err == 42) = false) (e40 : (err == 40) = false) (e1 : rl = 0) :
    Calls Try.prog 23 #[.pointer (some ⟨s, 0, none⟩), .agg #[.int .i64 kind, .int .i64 lsn, .slice A n k], .agg #[.int .i64 err, .int .i64 rl, .slice A' n' k']] w (Post B s rv w none) := by
  have hb := boxed h (.int .i64 kind) (.int .i64 lsn) (.slice A n k) (.int .i64 err) (.int .i64 rl) (.slice A' n' k')
  clear h
  subst e1
  go_enter Try.func23, Try.ntmps23
  go_upto_region 1 with (fail)
  generalize (w.alloc _).alloc _ = w2 at hb ⊢
  generalize w.heap.size = a at hb ⊢
  generalize a + 1 = b at hb ⊢
  have p0 := hb.p.cell 0; have p1 := hb.p.cell 1; have q0 := hb.q.cell 0; have q1 := hb.q.cell 1; have q2 := hb.q.cell 2
  have s0 := hb.st.blk.cell 0; have s1 := hb.st.blk.cell 1; have s2 := hb.st.blk.cell 2; have s3 := hb.st.blk.cell 3; have s5 := hb.st.blk.cell 5
  have s6 := hb.st.blk.cell 6; have f6 := hb.st.blk.frozen 6
  simp [cells] at p0 p1 q0 q1 q2 s0 s1 s2 s3 s5 s6
  have HB := hide hb
  clear hb
  go_wp2_with (first | (go_at_call 14; first | (refine (may_true _).mono ?_; rintro e w1 ⟨rfl, rfl⟩) | (refine (may_false _).mono ?_; rintro e w1 ⟨rfl, rfl⟩)))
  exact ⟨rfl, .none HB.out.chg⟩

theorem read_any (w : World) (B s : Nat) (m : MS) (rv : Value) (vs : List Value) (c : CM) (r : RM) (A : Option Addr) (n k : Nat) (A' : Option Addr) (n' k' : Nat) (h : St w B s m rv vs) (hi : m.Inv)
    (hd : Byt w w.heap.size A' n' k' r.data) :
    Calls Try.prog 23 #[.pointer (some ⟨s, 0, none⟩), callV c A n k, resV r A' n' k'] w (Post B s rv w (m.read c r)) := by
  obtain ⟨err, rl, l⟩ := r
  obtain ⟨kind, lsn, cl⟩ := c
  unfold callV resV MS.read
  simp only at hd ⊢
  by_cases e0 : err = 0
  · rw [if_pos e0]
    by_cases e1 : rl = lsn
    · by_cases h2 : m.first ≤ lsn
      · by_cases h3 : lsn < m.next
        · subst e1
          cases h4 : eqB l (m.nth rl) with
          | true =>
            rw [if_pos ⟨rfl, h2, h3, rfl⟩]
            cases hR : m.raise (rl + 1) with
            | none => rw [← hR]; exact read_go1 w B s m rv vs kind rl rl err A n k A' n' k' h l hi hd e0 rfl h2 h3 h4 hR
            | some m1 => rw [← hR]; exact read_go2 w B s m rv vs kind rl rl err A n k A' n' k' h l hi hd e0 rfl h2 h3 h4 m1 hR
          | false =>
            rw [if_neg (fun q => by simp at q)]
            exact read_bad4 w B s m rv vs kind rl rl err A n k A' n' k' h l hi hd e0 rfl h2 h3 h4
        · rw [if_neg (fun q => h3 q.2.2.1)]
          exact read_bad3 w B s m rv vs kind lsn rl err A n k A' n' k' h e0 e1 (e1 ▸ h2) (by subst e1; simpa using h3)
      · rw [if_neg (fun q => h2 q.2.1)]
        exact read_bad2 w B s m rv vs kind lsn rl err A n k A' n' k' h e0 e1 (by subst e1; simpa using h2)
    · rw [if_neg (fun q => e1 q.1)]
      exact read_bad1 w B s m rv vs kind lsn rl err A n k A' n' k' h e0 (by simpa using e1)
  · rw [if_neg e0]
    by_cases e1 : rl = 0
    · rw [if_neg (fun q => q e1)]
      by_cases e43 : err = 43
      · rw [if_pos e43]
        by_cases e2 : lsn < m.first
        · rw [if_pos e2]; exact read_e43a w B s m rv vs kind lsn rl err A n k A' n' k' h e43 e1 e2
        · rw [if_neg e2]; exact read_e43b w B s m rv vs kind lsn rl err A n k A' n' k' h e43 e1 (by simpa using e2)
      · rw [if_neg e43]
        by_cases e22 : err = 22
        · rw [if_pos e22]
          by_cases e2 : m.first ≤ lsn
          · by_cases e3 : lsn < m.next
            · rw [if_pos ⟨e2, e3⟩]; exact read_e22a w B s m rv vs kind lsn rl err A n k A' n' k' h e22 e1 e2 e3
            · rw [if_neg (fun q => e3 q.2)]; exact read_e22c w B s m rv vs kind lsn rl err A n k A' n' k' h e22 e1 e2 (by simpa using e3)
          · rw [if_neg (fun q => e2 q.1)]; exact read_e22b w B s m rv vs kind lsn rl err A n k A' n' k' h e22 e1 (by simpa using e2)
        · rw [if_neg e22]
          by_cases e42 : err = 42
          · by_cases ek : kind = 4
            · rw [if_pos ⟨e42, ek⟩]
              by_cases e2 : m.durable ≤ lsn
              · by_cases e3 : m.first ≤ lsn
                · rw [if_pos ⟨e2, e3⟩]; exact read_e42a w B s m rv vs kind lsn rl err A n k A' n' k' h e42 e1 ek e2 e3
                · rw [if_neg (fun q => e3 q.2)]; exact read_e42c w B s m rv vs kind lsn rl err A n k A' n' k' h e42 e1 ek e2 (by simpa using e3)
              · rw [if_neg (fun q => e2 q.1)]; exact read_e42b w B s m rv vs kind lsn rl err A n k A' n' k' h e42 e1 ek (by simpa using e2)
            · rw [if_neg (fun q => ek q.2), if_neg (fun q => by omega)]
              exact read_e42d w B s m rv vs kind lsn rl err A n k A' n' k' h e42 e1 (by simpa using ek)
          · rw [if_neg (fun q => e42 q.1)]
            by_cases e40 : err = 40
            · by_cases ek : kind = 5
              · rw [if_pos ⟨e40, ek⟩]
                by_cases e2 : m.durable ≤ lsn
                · rw [if_pos e2]; exact read_e40a w B s m rv vs kind lsn rl err A n k A' n' k' h e40 e1 ek e2
                · rw [if_neg e2]; exact read_e40b w B s m rv vs kind lsn rl err A n k A' n' k' h e40 e1 ek (by simpa using e2)
              · rw [if_neg (fun q => ek q.2)]; exact read_e40c w B s m rv vs kind lsn rl err A n k A' n' k' h e40 e1 (by simpa using ek)
            · rw [if_neg (fun q => e40 q.1)]
              exact read_ex w B s m rv vs kind lsn rl err A n k A' n' k' h (by simpa using e0) (by simpa using e43) (by simpa using e22) (by simpa using e42) (by simpa using e40) e1
    · rw [if_pos e1]
      exact read_e0 w B s m rv vs kind lsn rl err A n k A' n' k' h (by simpa using e0) (by simpa using e1)
end Go.Proofs.Ytemllidcnamlmaa
