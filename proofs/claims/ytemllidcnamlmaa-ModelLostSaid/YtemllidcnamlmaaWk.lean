/- The walks of change and its deferred function. -/
import Derived.Test.YtemllidcnamlmaaWj
namespace Go.Proofs.Ytemllidcnamlmaa
open Go.RowKit

theorem catch_idle (p q : Addr) (w : World) :
    CallsD Try.prog 20 #[.pointer (some p), .pointer (some q)] .returning w fun e u' w' => e = retUnit ∧ u' = .returning ∧ w' = w := by
  refine callsD_of_wpS Try.func20 rfl fun c₀ cs hu => ?_
  apply wpS_seq
  apply wpS_region
  simp [wpOpsS, go_sem, recoverD, hu, Try.ntmps20, Exit.thenS]
  simp only [Array.replicate_succ, Array.replicate_zero, List.push_toArray, List.append_toArray, List.nil_append, List.cons_append, List.setIfInBounds_toArray, List.set_cons_succ, List.set_cons_zero]
  refine wpS_of_wp ?_
  go_wp2
  cases c₀
  simp_all [bodyPostS, results, Try.results20]

def zcells : Array Value := cells MS.zero (.slice none 0 0)

/-- What the deferred function leaves of a panic: the results are zero. -/
structure Fixd (o p : Nat) (w w' : World) : Prop where
  os : w'.os = w.os
  tape : w'.tape = w.tape
  output : w'.output = w.output
  size : w.heap.size ≤ w'.heap.size
  block : ∀ k, k < w.heap.size → k ≠ o → k ≠ p → w'.heap[k]? = w.heap[k]?
  out : Blk w' o 26 zcells
  ok : Blk w' p 4 #[.bool false]

theorem Blk.same_set {w : World} {g : Nat} {t : TypeId} {cs : Array Value} (h : Blk w g t cs) (i : Nat) (u : Value) (e : cs.setIfInBounds i u = cs) : Blk (w.setCell ⟨g, i, none⟩ u) g t cs := by
  have := h.set_ i u
  rwa [e] at this

theorem fix_set {o p : Nat} {w w' : World} (h : Fixd o p w w') (i : Nat) (u : Value) (e : zcells.setIfInBounds i u = zcells) (hne : o ≠ p) : Fixd o p w (w'.setCell ⟨o, i, none⟩ u) :=
  ⟨h.os, h.tape, h.output, by simp [World.setCell]; exact h.size, fun k hk h1 h2 => by rw [Below.heap_setCell _ _ _ _ (by simpa using h1)]; exact h.block k hk h1 h2,
    h.out.same_set i u e, h.ok.far (p := ⟨o, i, none⟩) (fun q => hne q.symm) u⟩
theorem fix_ok {o p : Nat} {w w' : World} (h : Fixd o p w w') (hne : o ≠ p) : Fixd o p w (w'.setCell ⟨p, 0, none⟩ (.bool false)) :=
  ⟨h.os, h.tape, h.output, by simp [World.setCell]; exact h.size, fun k hk h1 h2 => by rw [Below.heap_setCell _ _ _ _ (by simpa using h2)]; exact h.block k hk h1 h2,
    h.out.far (p := ⟨p, 0, none⟩) hne _, h.ok.same_set 0 _ rfl⟩
theorem fix_alloc {o p : Nat} {w : World} (ho : Blk w o 26 zcells) (hp : Blk w p 4 #[.bool false]) (x : Obj) : Fixd o p w (w.alloc x) :=
  ⟨rfl, rfl, rfl, by simp, fun k hk _ _ => Below.heap_alloc _ _ _ hk, ho.alloc x, hp.alloc x⟩

theorem catch_no (o p : Nat) (w : World) (ho : Blk w o 26 zcells) (hp : Blk w p 4 #[.bool false]) :
    CallsD Try.prog 20 #[.pointer (some ⟨o, 0, none⟩), .pointer (some ⟨p, 0, none⟩)] (.panicking [{ v := .iface 55 (.agg #[]), recovered := false }]) w fun e u' w' =>
      e = retUnit ∧ u' = .panicking [{ v := .iface 55 (.agg #[]), recovered := true }] ∧ Fixd o p w w' := by
  have hta : ∀ w, (Instr.typeAssert (.iface 55 (.agg #[])) 20 55 true).run Try.prog w = .ok (.tuple #[.agg #[], .bool true]) w := fun _ => by kernel_rfl
  have hne : o ≠ p := Blk.ne_ ho hp (by decide)
  have HF := hide (fix_alloc ho hp (.cells #[] 55))
  have HO := ho.alloc (.cells #[] 55)
  have HP := hp.alloc (.cells #[] 55)
  have c0 := HO.cell 0; have f0 := HO.frozen 0
  have c1 := HO.cell 1; have f1 := HO.frozen 1
  have c2 := HO.cell 2; have f2 := HO.frozen 2
  have c3 := HO.cell 3; have f3 := HO.frozen 3
  have c4 := HO.cell 4; have f4 := HO.frozen 4
  have c5 := HO.cell 5; have f5 := HO.frozen 5
  have c6 := HO.cell 6; have f6 := HO.frozen 6
  have c7 := HO.cell 7; have f7 := HO.frozen 7
  have d0 := HP.cell 0; have g0 := HP.frozen 0
  simp [zcells, cells, MS.zero] at c0 c1 c2 c3 c4 c5 c6 c7 d0
  have hne' : ¬ o = p := hne
  have hnep : ¬ p = o := fun q => hne q.symm
  clear ho hp HO HP
  refine callsD_of_wpS Try.func20 rfl fun c₀ cs hu => ?_
  apply wpS_seq
  apply wpS_region
  simp [wpOpsS, go_sem, recoverD, hu, Try.ntmps20, Exit.thenS]
  simp only [Array.replicate_succ, Array.replicate_zero, List.push_toArray, List.append_toArray, List.nil_append, List.cons_append, List.setIfInBounds_toArray, List.set_cons_succ, List.set_cons_zero]
  refine wpS_of_wp ?_
  go_wp2
  have K := fix_ok (fix_set (fix_set (fix_set (fix_set (fix_set (fix_set (fix_set (fix_set HF.out 0 (.int .i64 0) rfl hne) 1 (.int .i64 0) rfl hne) 2 (.int .i64 0) rfl hne) 3 (.int .i64 0) rfl hne) 4 (.int .i64 0) rfl hne) 5 (.slice none 0 0) rfl hne) 6 (.bool false) rfl hne) 7 (.bool false) rfl hne) hne
  simp [bodyPostS, results, Try.results20]
  exact K

theorem Byt.below {w w' : World} {A : Option Addr} {n c B : Nat} {l : List Int} (h : Byt w B A n c l) (hb : Below B w w') : Byt w' B A n c l := ⟨h.1.below hb, h.2⟩
theorem Byt.up {w : World} {A : Option Addr} {n c B B' : Nat} {l : List Int} (h : Byt w B A n c l) (hB : B ≤ B') : Byt w B' A n c l := ⟨h.1.more hB, h.2⟩
theorem RecsR.below {w w' : World} {A : Option Addr} {n c B : Nat} {vs : List Value} {rs : List (List Int)} (h : RecsR w B A n c vs rs) (hb : Below B w w') : RecsR w' B A n c vs rs :=
  ⟨h.1.below hb, h.2.1, h.2.2.1, fun i x l hx hl => by obtain ⟨A', n', c', e, hy⟩ := h.2.2.2 i x l hx hl; exact ⟨A', n', c', e, hy.below hb⟩⟩
theorem RecsR.up {w : World} {A : Option Addr} {n c B B' : Nat} {vs : List Value} {rs : List (List Int)} (h : RecsR w B A n c vs rs) (hB : B ≤ B') : RecsR w B' A n c vs rs :=
  ⟨h.1.more hB, h.2.1, h.2.2.1, fun i x l hx hl => by obtain ⟨A', n', c', e, hy⟩ := h.2.2.2 i x l hx hl; exact ⟨A', n', c', e, hy.up hB⟩⟩
/-- A state's records read as they are. -/
theorem St.reads {w : World} {B s : Nat} {m : MS} {rv : Value} {vs : List Value} (h : St w B s m rv vs) : ∃ A n c, rv = .slice A n c ∧ RecsR w w.heap.size A n c vs m.recs := by
  obtain ⟨A, c, hrv⟩ := own_slice h.row
  subst hrv
  refine ⟨A, _, c, rfl, Reads.of_own h.row, ?_, rfl, fun i x l hx hl => ?_⟩
  · rcases h.row.2 with ⟨h1, h2⟩ | ⟨g, cap, cur, h1, _, _, h4, _⟩
    · omega
    · injection h1 with _ _ h5; omega
  · have ho := h.one i x l hx hl
    obtain ⟨A', c', he⟩ := own_slice ho
    subst he
    exact ⟨A', _, c', rfl, Byt.own ho⟩

/-- What change comes to. -/
def ChgPost (w : World) (o : Option MS) (e : Ending) (w' : World) : Prop :=
  Below w.heap.size w w' ∧ match o with
    | none => e = .returned (.tuple #[.agg zcells, .bool false])
    | some m' => ∃ s A n c vs, e = .returned (.tuple #[.agg (cells m' (.slice A n c)), .bool true]) ∧ St w' w.heap.size s m' (.slice A n c) vs

/-- The world in which own is called: a box, the two results. -/
structure Pre3 (w w3 : World) (m : MS) (rv : Value) : Prop where
  below : Below w.heap.size w w3
  size : w3.heap.size = w.heap.size + 3
  out : Blk w3 (w.heap.size + 1) 26 zcells
  ok : Blk w3 (w.heap.size + 1 + 1) 4 #[.bool false]
  box : Blk w3 w.heap.size 26 (cells m rv)
theorem pre3 (w : World) (m : MS) (rv : Value) : Pre3 w (((w.alloc (.cells (cells m rv) 26)).alloc (.cells zcells 26)).alloc (.cells #[.bool false] 4)) m rv := by
  refine ⟨(((Below.refl _ _).alloc (Nat.le_refl _) _).alloc (by simp) _).alloc (by simp; omega) _, by simp, ?_, ?_, (((Blk.new _ _ _).alloc _).alloc _)⟩
  · have := (Blk.new (w.alloc (.cells (cells m rv) 26)) 26 zcells).alloc (.cells #[.bool false] 4)
    simpa using this
  · have := Blk.new ((w.alloc (.cells (cells m rv) 26)).alloc (.cells zcells 26)) 4 #[.bool false]
    simpa using this

theorem ownsRow_mono {w : World} {B B' : Nat} {e : TypeId} {n : Nat} {v : Value} {xs : List Value} (h : w.ownsRow B e 1 v n xs) (hB : B' ≤ B) : w.ownsRow B' e 1 v n xs := by
  refine ⟨h.1, ?_⟩
  rcases h.2 with hn | ⟨g, cap, cur, hv, hg, r⟩
  · exact .inl hn
  · exact .inr ⟨g, cap, cur, hv, by omega, r⟩

theorem Fixd.below {o p : Nat} {w w' : World} {B : Nat} (h : Fixd o p w w') (ho : B ≤ o) (hp : B ≤ p) (hB : B ≤ w.heap.size) : Below B w w' :=
  ⟨h.os, h.tape, h.output, h.size, fun k hk => h.block k (by omega) (by omega) (by omega)⟩
/-- A store into a block of another type leaves a state as it was. -/
theorem St.far {w : World} {B s : Nat} {m : MS} {rv : Value} {vs : List Value} (h : St w B s m rv vs) {o : Nat} {t : TypeId} {cs : Array Value} (hb : Blk w o t cs) (h1 : t ≠ 48) (h2 : t ≠ 30) (h3 : t ≠ 5) (i : Nat) (u : Value) :
    St (w.setCell ⟨o, i, none⟩ u) B s m rv vs :=
  ⟨h.blk.far (p := ⟨o, i, none⟩) (Blk.ne_ h.blk hb (fun q => h1 q.symm)) u, own_set h.row hb (fun q => h2 q.symm) i u, fun j x l hx hl => own_set (h.one j x l hx hl) hb (fun q => h3 q.symm) i u, h.low⟩
/-- A state and the two results, as the function is left. -/
structure Done (w w' : World) (B s o p : Nat) (m : MS) (rv : Value) (vs : List Value) (cs : Array Value) (b : Bool) : Prop where
  below : Below B w w'
  st : St w' B s m rv vs
  out : Blk w' o 26 cs
  ok : Blk w' p 4 #[.bool b]
theorem Done.seto {w w' : World} {B s o p : Nat} {m : MS} {rv : Value} {vs : List Value} {cs : Array Value} {b : Bool} (h : Done w w' B s o p m rv vs cs b) (ho : B ≤ o) (i : Nat) (u : Value) :
    Done w (w'.setCell ⟨o, i, none⟩ u) B s o p m rv vs (cs.setIfInBounds i u) b :=
  ⟨h.below.setCell (p := ⟨o, i, none⟩) ho u, h.st.far h.out (by decide) (by decide) (by decide) i u, h.out.set_ i u, h.ok.far (p := ⟨o, i, none⟩) (fun q => (Blk.ne_ h.out h.ok (by decide)) q.symm) u⟩
theorem Done.setp {w w' : World} {B s o p : Nat} {m : MS} {rv : Value} {vs : List Value} {cs : Array Value} {b : Bool} (h : Done w w' B s o p m rv vs cs b) (hp : B ≤ p) (c : Bool) :
    Done w (w'.setCell ⟨p, 0, none⟩ (.bool c)) B s o p m rv vs cs c :=
  ⟨h.below.setCell (p := ⟨p, 0, none⟩) hp _, h.st.far h.ok (by decide) (by decide) (by decide) 0 _, h.out.far (p := ⟨p, 0, none⟩) (Blk.ne_ h.out h.ok (by decide)) _, h.ok.set_ 0 (.bool c)⟩

set_option maxHeartbeats 1000000 in
theorem chA_none (w : World) (m : MS) (c : CM) (r : RM) (A0 : Option Addr) (n0 c0 : Nat) (vs : List Value) (A : Option Addr) (n k : Nat) (A' : Option Addr) (n' k' : Nat) (a b : Nat) (hi : m.Inv)
    (hm : RecsR w w.heap.size A0 n0 c0 vs m.recs) (hd : Byt w w.heap.size A n k c.data) (hr : Byt w w.heap.size A' n' k' r.data)
    (hp : Blk w a 32 #[.int .i64 c.kind, .int .i64 c.lsn, .slice A n k]) (hq : Blk w b 34 #[.int .i64 r.err, .int .i64 r.lsn, .slice A' n' k']) (hA : m.apply1 c r = none) :
    Calls Try.prog 11 #[.agg (cells m (.slice A0 n0 c0)), .func (.func 16) #[] #[.pointer (some ⟨b, 0, none⟩), .pointer (some ⟨a, 0, none⟩)]] w (ChgPost w none) := by
  have hmf : ∀ (fn : Fn) (first cap : Array Value) (w : World), (Instr.makeFunc fn first cap).run Try.prog w = .ok (.func fn first cap) w := fun _ _ _ _ => rfl
  have h3 := pre3 w m (.slice A0 n0 c0)
  have HA := hide hA
  clear hA
  unfold cells zcells MS.zero cells at h3
  unfold cells
  simp only at h3 ⊢
  go_enter_defers Try.func11, Try.ntmps11
  go_upto_region 1 with (fail)
  generalize ((w.alloc _).alloc _).alloc _ = w3 at h3 ⊢
  have HM := hide ((hm.below h3.below).up h3.below.size)
  have HD := hide ((hd.below h3.below).up h3.below.size)
  have HR := hide ((hr.below h3.below).up h3.below.size)
  have HP := hide (hp.below h3.below hp.lt)
  have HQ := hide (hq.below h3.below hq.lt)
  have HO := hide h3.out
  have HK := hide h3.ok
  have HB := hide h3.below
  have HI := hide hi
  have x0 := h3.box.cell 0; have x1 := h3.box.cell 1; have x2 := h3.box.cell 2; have x3 := h3.box.cell 3; have x4 := h3.box.cell 4; have x5 := h3.box.cell 5; have x6 := h3.box.cell 6; have x7 := h3.box.cell 7
  simp [cells] at x0 x1 x2 x3 x4 x5 x6 x7
  have hz3 := h3.size
  have hol : w.heap.size + 1 < w3.heap.size := by omega
  have hkl : w.heap.size + 1 + 1 < w3.heap.size := by omega
  have hob : w.heap.size ≤ w.heap.size + 1 := by omega
  have hkb : w.heap.size ≤ w.heap.size + 1 + 1 := by omega
  generalize w.heap.size + 1 + 1 = p at HK hkl hkb ⊢
  generalize w.heap.size + 1 = o at HO hol hob ⊢
  clear hm h3 hi hz3 hd hr hp hq
  go_wp2_with fail
  refine (own_any w3 m A0 n0 c0 vs HM.out HI.out.few HI.out.small).mono ?_
  rintro e w1 ⟨rfl, hb1, rv1, vs1, h1⟩
  have B1 := hide hb1; have H1 := hide h1
  have P1 := hide (HP.out.below hb1 HP.out.lt); have Q1 := hide (HQ.out.below hb1 HQ.out.lt)
  have O1 := hide (HO.out.below hb1 hol); have K1 := hide (HK.out.below hb1 hkl)
  clear hb1 h1
  generalize w3.heap.size + 1 = s at H1 ⊢
  go_wp2_with fail
  refine (applyIn_any w1 _ _ m rv1 vs1 c r A n k A' n' k' a b H1.out HI.out ((HD.out.below B1.out).up B1.out.size) ((HR.out.below B1.out).up B1.out.size) P1.out Q1.out).mono ?_
  rintro e w2 hP
  have hc2 := hP.chg
  have O2 := hide (hc2.blk H1.out O1.out (by decide) (by decide)); have K2 := hide (hc2.blk H1.out K1.out (by decide) (by decide))
  have hbel : Below w.heap.size w w2 := (HB.out.trans (B1.out.mono HB.out.size)).trans ((hc2.below B1.out.size H1.out.low H1.out.rowlow).mono HB.out.size)
  have BB := hide hbel
  clear hbel hc2
  obtain rfl := hP.stops HA.out
  clear hP
  refine leaves_cons (f := 20) (args := #[.pointer (some ⟨o, 0, none⟩), .pointer (some ⟨p, 0, none⟩)]) (by simp) (by simp [go_sem]) ?_
  refine (catch_no o p _ O2.out K2.out).mono ?_
  rintro e u' w'' ⟨rfl, rfl, hf⟩
  have y0 := hf.out.cell 0; have y1 := hf.out.cell 1; have y2 := hf.out.cell 2; have y3 := hf.out.cell 3; have y4 := hf.out.cell 4; have y5 := hf.out.cell 5; have y6 := hf.out.cell 6; have y7 := hf.out.cell 7
  have z0 := hf.ok.cell 0
  simp [zcells, cells, MS.zero] at y0 y1 y2 y3 y4 y5 y6 y7 z0
  simp [Leaves, settle, results, Try.results11, go_sem, y0, y1, y2, y3, y4, y5, y6, y7, z0]
  exact ⟨BB.out.trans (hf.below hob hkb BB.out.size), rfl⟩

set_option maxHeartbeats 1000000 in
theorem chA_some (w : World) (m : MS) (c : CM) (r : RM) (A0 : Option Addr) (n0 c0 : Nat) (vs : List Value) (A : Option Addr) (n k : Nat) (A' : Option Addr) (n' k' : Nat) (a b : Nat) (hi : m.Inv)
    (hm : RecsR w w.heap.size A0 n0 c0 vs m.recs) (hd : Byt w w.heap.size A n k c.data) (hr : Byt w w.heap.size A' n' k' r.data)
    (hp : Blk w a 32 #[.int .i64 c.kind, .int .i64 c.lsn, .slice A n k]) (hq : Blk w b 34 #[.int .i64 r.err, .int .i64 r.lsn, .slice A' n' k']) (m1 : MS) (hA : m.apply1 c r = some m1) :
    Calls Try.prog 11 #[.agg (cells m (.slice A0 n0 c0)), .func (.func 16) #[] #[.pointer (some ⟨b, 0, none⟩), .pointer (some ⟨a, 0, none⟩)]] w (ChgPost w (some m1)) := by
  have hmf : ∀ (fn : Fn) (first cap : Array Value) (w : World), (Instr.makeFunc fn first cap).run Try.prog w = .ok (.func fn first cap) w := fun _ _ _ _ => rfl
  have h3 := pre3 w m (.slice A0 n0 c0)
  have HA := hide hA
  clear hA
  unfold cells zcells MS.zero cells at h3
  unfold cells
  simp only at h3 ⊢
  go_enter_defers Try.func11, Try.ntmps11
  go_upto_region 1 with (fail)
  generalize ((w.alloc _).alloc _).alloc _ = w3 at h3 ⊢
  have HM := hide ((hm.below h3.below).up h3.below.size)
  have HD := hide ((hd.below h3.below).up h3.below.size)
  have HR := hide ((hr.below h3.below).up h3.below.size)
  have HP := hide (hp.below h3.below hp.lt)
  have HQ := hide (hq.below h3.below hq.lt)
  have HO := hide h3.out
  have HK := hide h3.ok
  have HB := hide h3.below
  have HI := hide hi
  have x0 := h3.box.cell 0; have x1 := h3.box.cell 1; have x2 := h3.box.cell 2; have x3 := h3.box.cell 3; have x4 := h3.box.cell 4; have x5 := h3.box.cell 5; have x6 := h3.box.cell 6; have x7 := h3.box.cell 7
  simp [cells] at x0 x1 x2 x3 x4 x5 x6 x7
  have hz3 := h3.size
  have hol : w.heap.size + 1 < w3.heap.size := by omega
  have hkl : w.heap.size + 1 + 1 < w3.heap.size := by omega
  have hob : w.heap.size ≤ w.heap.size + 1 := by omega
  have hkb : w.heap.size ≤ w.heap.size + 1 + 1 := by omega
  generalize w.heap.size + 1 + 1 = p at HK hkl hkb ⊢
  generalize w.heap.size + 1 = o at HO hol hob ⊢
  clear hm h3 hi hz3 hd hr hp hq
  go_wp2_with fail
  refine (own_any w3 m A0 n0 c0 vs HM.out HI.out.few HI.out.small).mono ?_
  rintro e w1 ⟨rfl, hb1, rv1, vs1, h1⟩
  have B1 := hide hb1; have H1 := hide h1
  have P1 := hide (HP.out.below hb1 HP.out.lt); have Q1 := hide (HQ.out.below hb1 HQ.out.lt)
  have O1 := hide (HO.out.below hb1 hol); have K1 := hide (HK.out.below hb1 hkl)
  clear hb1 h1
  generalize w3.heap.size + 1 = s at H1 ⊢
  go_wp2_with fail
  refine (applyIn_any w1 _ _ m rv1 vs1 c r A n k A' n' k' a b H1.out HI.out ((HD.out.below B1.out).up B1.out.size) ((HR.out.below B1.out).up B1.out.size) P1.out Q1.out).mono ?_
  rintro e w2 hP
  have hc2 := hP.chg
  have O2 := hide (hc2.blk H1.out O1.out (by decide) (by decide)); have K2 := hide (hc2.blk H1.out K1.out (by decide) (by decide))
  have hbel : Below w.heap.size w w2 := (HB.out.trans (B1.out.mono HB.out.size)).trans ((hc2.below B1.out.size H1.out.low H1.out.rowlow).mono HB.out.size)
  have BB := hide hbel
  clear hbel hc2
  obtain ⟨rfl, rv2, vs2, h2, hr2⟩ := hP.goes _ HA.out
  obtain ⟨A2, n2, c2, hrv, hrec⟩ := h2.reads
  subst hrv
  have hst : St w2 w.heap.size s m1 (.slice A2 n2 c2) vs2 := ⟨h2.blk, ownsRow_mono h2.row HB.out.size, fun i x l hx hl => ownsRow_mono (h2.one i x l hx hl) HB.out.size, Nat.le_trans HB.out.size h2.low⟩
  have D := hide (Done.mk BB.out hst O2.out K2.out)
  have t0 := h2.blk.cell 0; have t1 := h2.blk.cell 1; have t2 := h2.blk.cell 2; have t3 := h2.blk.cell 3; have t4 := h2.blk.cell 4; have t5 := h2.blk.cell 5; have t6 := h2.blk.cell 6; have t7 := h2.blk.cell 7
  simp [cells] at t0 t1 t2 t3 t4 t5 t6 t7
  have y0 := O2.out.cell 0; have y1 := O2.out.cell 1; have y2 := O2.out.cell 2; have y3 := O2.out.cell 3; have y4 := O2.out.cell 4; have y5 := O2.out.cell 5; have y6 := O2.out.cell 6; have y7 := O2.out.cell 7
  have z0 := K2.out.cell 0
  simp [zcells, cells, MS.zero] at y0 y1 y2 y3 y4 y5 y6 y7 z0
  have g0 := O2.out.frozen 0; have g1 := O2.out.frozen 1; have g2 := O2.out.frozen 2; have g3 := O2.out.frozen 3; have g4 := O2.out.frozen 4; have g5 := O2.out.frozen 5; have g6 := O2.out.frozen 6; have g7 := O2.out.frozen 7
  have gk := K2.out.frozen 0
  have hop : ¬ o = p := Blk.ne_ O2.out K2.out (by decide)
  have hpo : ¬ p = o := fun q => hop q.symm
  clear hP h2 hr2 hrec hst
  go_wp2
  refine leaves_cons (f := 20) (args := #[.pointer (some ⟨o, 0, none⟩), .pointer (some ⟨p, 0, none⟩)]) (by simp) (by simp [go_sem]) ?_
  refine (catch_idle ⟨o, 0, none⟩ ⟨p, 0, none⟩ _).mono ?_
  rintro e u' w'' ⟨rfl, rfl, rfl⟩
  have DD := ((((((((((D.out.seto hob 0 (.int .i64 m1.base)).seto hob 1 (.int .i64 m1.first)).seto hob 2 (.int .i64 m1.durable)).seto hob 3 (.int .i64 m1.next)).seto hob 4 (.int .i64 m1.limit)).seto hob 5 (.slice A2 n2 c2)).seto hob 6 (.bool m1.failed)).seto hob 7 (.bool m1.closed)).setp hkb true))
  generalize World.setCell _ _ _ = w5 at DD ⊢
  have v0 := DD.out.cell 0; have v1 := DD.out.cell 1; have v2 := DD.out.cell 2; have v3 := DD.out.cell 3; have v4 := DD.out.cell 4; have v5 := DD.out.cell 5; have v6 := DD.out.cell 6; have v7 := DD.out.cell 7
  have v8 := DD.ok.cell 0
  simp [zcells, cells, MS.zero] at v0 v1 v2 v3 v4 v5 v6 v7 v8
  simp [Leaves, settle, results, Try.results11, go_sem, v0, v1, v2, v3, v4, v5, v6, v7, v8]
  exact ⟨DD.below, s, A2, n2, c2, vs2, rfl, DD.st⟩

set_option maxHeartbeats 1000000 in
theorem chH_none (w : World) (m : MS) (c : CM) (A0 : Option Addr) (n0 c0 : Nat) (vs : List Value) (A : Option Addr) (n k : Nat) (a : Nat) (hi : m.Inv)
    (hm : RecsR w w.heap.size A0 n0 c0 vs m.recs) (hd : Byt w w.heap.size A n k c.data)
    (hp : Blk w a 32 #[.int .i64 c.kind, .int .i64 c.lsn, .slice A n k]) (hA : m.half1 c = none) :
    Calls Try.prog 11 #[.agg (cells m (.slice A0 n0 c0)), .func (.func 12) #[] #[.pointer (some ⟨a, 0, none⟩)]] w (ChgPost w none) := by
  have hmf : ∀ (fn : Fn) (first cap : Array Value) (w : World), (Instr.makeFunc fn first cap).run Try.prog w = .ok (.func fn first cap) w := fun _ _ _ _ => rfl
  have h3 := pre3 w m (.slice A0 n0 c0)
  have HA := hide hA
  clear hA
  unfold cells zcells MS.zero cells at h3
  unfold cells
  simp only at h3 ⊢
  go_enter_defers Try.func11, Try.ntmps11
  go_upto_region 1 with (fail)
  generalize ((w.alloc _).alloc _).alloc _ = w3 at h3 ⊢
  have HM := hide ((hm.below h3.below).up h3.below.size)
  have HD := hide ((hd.below h3.below).up h3.below.size)
  have HP := hide (hp.below h3.below hp.lt)
  have HO := hide h3.out
  have HK := hide h3.ok
  have HB := hide h3.below
  have HI := hide hi
  have x0 := h3.box.cell 0; have x1 := h3.box.cell 1; have x2 := h3.box.cell 2; have x3 := h3.box.cell 3; have x4 := h3.box.cell 4; have x5 := h3.box.cell 5; have x6 := h3.box.cell 6; have x7 := h3.box.cell 7
  simp [cells] at x0 x1 x2 x3 x4 x5 x6 x7
  have hz3 := h3.size
  have hol : w.heap.size + 1 < w3.heap.size := by omega
  have hkl : w.heap.size + 1 + 1 < w3.heap.size := by omega
  have hob : w.heap.size ≤ w.heap.size + 1 := by omega
  have hkb : w.heap.size ≤ w.heap.size + 1 + 1 := by omega
  generalize w.heap.size + 1 + 1 = p at HK hkl hkb ⊢
  generalize w.heap.size + 1 = o at HO hol hob ⊢
  clear hm h3 hi hz3 hd hp
  go_wp2_with fail
  refine (own_any w3 m A0 n0 c0 vs HM.out HI.out.few HI.out.small).mono ?_
  rintro e w1 ⟨rfl, hb1, rv1, vs1, h1⟩
  have B1 := hide hb1; have H1 := hide h1
  have P1 := hide (HP.out.below hb1 HP.out.lt)
  have O1 := hide (HO.out.below hb1 hol); have K1 := hide (HK.out.below hb1 hkl)
  clear hb1 h1
  generalize w3.heap.size + 1 = s at H1 ⊢
  go_wp2_with fail
  refine (halfIn_any w1 _ _ m rv1 vs1 c A n k a H1.out HI.out ((HD.out.below B1.out).up B1.out.size) P1.out).mono ?_
  rintro e w2 hP
  have hc2 := hP.chg
  have O2 := hide (hc2.blk H1.out O1.out (by decide) (by decide)); have K2 := hide (hc2.blk H1.out K1.out (by decide) (by decide))
  have hbel : Below w.heap.size w w2 := (HB.out.trans (B1.out.mono HB.out.size)).trans ((hc2.below B1.out.size H1.out.low H1.out.rowlow).mono HB.out.size)
  have BB := hide hbel
  clear hbel hc2
  obtain rfl := hP.stops HA.out
  clear hP
  refine leaves_cons (f := 20) (args := #[.pointer (some ⟨o, 0, none⟩), .pointer (some ⟨p, 0, none⟩)]) (by simp) (by simp [go_sem]) ?_
  refine (catch_no o p _ O2.out K2.out).mono ?_
  rintro e u' w'' ⟨rfl, rfl, hf⟩
  have y0 := hf.out.cell 0; have y1 := hf.out.cell 1; have y2 := hf.out.cell 2; have y3 := hf.out.cell 3; have y4 := hf.out.cell 4; have y5 := hf.out.cell 5; have y6 := hf.out.cell 6; have y7 := hf.out.cell 7
  have z0 := hf.ok.cell 0
  simp [zcells, cells, MS.zero] at y0 y1 y2 y3 y4 y5 y6 y7 z0
  simp [Leaves, settle, results, Try.results11, go_sem, y0, y1, y2, y3, y4, y5, y6, y7, z0]
  exact ⟨BB.out.trans (hf.below hob hkb BB.out.size), rfl⟩

set_option maxHeartbeats 1000000 in
theorem chH_some (w : World) (m : MS) (c : CM) (A0 : Option Addr) (n0 c0 : Nat) (vs : List Value) (A : Option Addr) (n k : Nat) (a : Nat) (hi : m.Inv)
    (hm : RecsR w w.heap.size A0 n0 c0 vs m.recs) (hd : Byt w w.heap.size A n k c.data)
    (hp : Blk w a 32 #[.int .i64 c.kind, .int .i64 c.lsn, .slice A n k]) (m1 : MS) (hA : m.half1 c = some m1) :
    Calls Try.prog 11 #[.agg (cells m (.slice A0 n0 c0)), .func (.func 12) #[] #[.pointer (some ⟨a, 0, none⟩)]] w (ChgPost w (some m1)) := by
  have hmf : ∀ (fn : Fn) (first cap : Array Value) (w : World), (Instr.makeFunc fn first cap).run Try.prog w = .ok (.func fn first cap) w := fun _ _ _ _ => rfl
  have h3 := pre3 w m (.slice A0 n0 c0)
  have HA := hide hA
  clear hA
  unfold cells zcells MS.zero cells at h3
  unfold cells
  simp only at h3 ⊢
  go_enter_defers Try.func11, Try.ntmps11
  go_upto_region 1 with (fail)
  generalize ((w.alloc _).alloc _).alloc _ = w3 at h3 ⊢
  have HM := hide ((hm.below h3.below).up h3.below.size)
  have HD := hide ((hd.below h3.below).up h3.below.size)
  have HP := hide (hp.below h3.below hp.lt)
  have HO := hide h3.out
  have HK := hide h3.ok
  have HB := hide h3.below
  have HI := hide hi
  have x0 := h3.box.cell 0; have x1 := h3.box.cell 1; have x2 := h3.box.cell 2; have x3 := h3.box.cell 3; have x4 := h3.box.cell 4; have x5 := h3.box.cell 5; have x6 := h3.box.cell 6; have x7 := h3.box.cell 7
  simp [cells] at x0 x1 x2 x3 x4 x5 x6 x7
  have hz3 := h3.size
  have hol : w.heap.size + 1 < w3.heap.size := by omega
  have hkl : w.heap.size + 1 + 1 < w3.heap.size := by omega
  have hob : w.heap.size ≤ w.heap.size + 1 := by omega
  have hkb : w.heap.size ≤ w.heap.size + 1 + 1 := by omega
  generalize w.heap.size + 1 + 1 = p at HK hkl hkb ⊢
  generalize w.heap.size + 1 = o at HO hol hob ⊢
  clear hm h3 hi hz3 hd hp
  go_wp2_with fail
  refine (own_any w3 m A0 n0 c0 vs HM.out HI.out.few HI.out.small).mono ?_
  rintro e w1 ⟨rfl, hb1, rv1, vs1, h1⟩
  have B1 := hide hb1; have H1 := hide h1
  have P1 := hide (HP.out.below hb1 HP.out.lt)
  have O1 := hide (HO.out.below hb1 hol); have K1 := hide (HK.out.below hb1 hkl)
  clear hb1 h1
  generalize w3.heap.size + 1 = s at H1 ⊢
  go_wp2_with fail
  refine (halfIn_any w1 _ _ m rv1 vs1 c A n k a H1.out HI.out ((HD.out.below B1.out).up B1.out.size) P1.out).mono ?_
  rintro e w2 hP
  have hc2 := hP.chg
  have O2 := hide (hc2.blk H1.out O1.out (by decide) (by decide)); have K2 := hide (hc2.blk H1.out K1.out (by decide) (by decide))
  have hbel : Below w.heap.size w w2 := (HB.out.trans (B1.out.mono HB.out.size)).trans ((hc2.below B1.out.size H1.out.low H1.out.rowlow).mono HB.out.size)
  have BB := hide hbel
  clear hbel hc2
  obtain ⟨rfl, rv2, vs2, h2, hr2⟩ := hP.goes _ HA.out
  obtain ⟨A2, n2, c2, hrv, hrec⟩ := h2.reads
  subst hrv
  have hst : St w2 w.heap.size s m1 (.slice A2 n2 c2) vs2 := ⟨h2.blk, ownsRow_mono h2.row HB.out.size, fun i x l hx hl => ownsRow_mono (h2.one i x l hx hl) HB.out.size, Nat.le_trans HB.out.size h2.low⟩
  have D := hide (Done.mk BB.out hst O2.out K2.out)
  have t0 := h2.blk.cell 0; have t1 := h2.blk.cell 1; have t2 := h2.blk.cell 2; have t3 := h2.blk.cell 3; have t4 := h2.blk.cell 4; have t5 := h2.blk.cell 5; have t6 := h2.blk.cell 6; have t7 := h2.blk.cell 7
  simp [cells] at t0 t1 t2 t3 t4 t5 t6 t7
  have y0 := O2.out.cell 0; have y1 := O2.out.cell 1; have y2 := O2.out.cell 2; have y3 := O2.out.cell 3; have y4 := O2.out.cell 4; have y5 := O2.out.cell 5; have y6 := O2.out.cell 6; have y7 := O2.out.cell 7
  have z0 := K2.out.cell 0
  simp [zcells, cells, MS.zero] at y0 y1 y2 y3 y4 y5 y6 y7 z0
  have g0 := O2.out.frozen 0; have g1 := O2.out.frozen 1; have g2 := O2.out.frozen 2; have g3 := O2.out.frozen 3; have g4 := O2.out.frozen 4; have g5 := O2.out.frozen 5; have g6 := O2.out.frozen 6; have g7 := O2.out.frozen 7
  have gk := K2.out.frozen 0
  have hop : ¬ o = p := Blk.ne_ O2.out K2.out (by decide)
  have hpo : ¬ p = o := fun q => hop q.symm
  clear hP h2 hr2 hrec hst
  go_wp2
  refine leaves_cons (f := 20) (args := #[.pointer (some ⟨o, 0, none⟩), .pointer (some ⟨p, 0, none⟩)]) (by simp) (by simp [go_sem]) ?_
  refine (catch_idle ⟨o, 0, none⟩ ⟨p, 0, none⟩ _).mono ?_
  rintro e u' w'' ⟨rfl, rfl, rfl⟩
  have DD := ((((((((((D.out.seto hob 0 (.int .i64 m1.base)).seto hob 1 (.int .i64 m1.first)).seto hob 2 (.int .i64 m1.durable)).seto hob 3 (.int .i64 m1.next)).seto hob 4 (.int .i64 m1.limit)).seto hob 5 (.slice A2 n2 c2)).seto hob 6 (.bool m1.failed)).seto hob 7 (.bool m1.closed)).setp hkb true))
  generalize World.setCell _ _ _ = w5 at DD ⊢
  have v0 := DD.out.cell 0; have v1 := DD.out.cell 1; have v2 := DD.out.cell 2; have v3 := DD.out.cell 3; have v4 := DD.out.cell 4; have v5 := DD.out.cell 5; have v6 := DD.out.cell 6; have v7 := DD.out.cell 7
  have v8 := DD.ok.cell 0
  simp [zcells, cells, MS.zero] at v0 v1 v2 v3 v4 v5 v6 v7 v8
  simp [Leaves, settle, results, Try.results11, go_sem, v0, v1, v2, v3, v4, v5, v6, v7, v8]
  exact ⟨DD.below, s, A2, n2, c2, vs2, rfl, DD.st⟩

end Go.Proofs.Ytemllidcnamlmaa
