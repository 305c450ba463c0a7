/- The walks of package model's small steps: may, sane, raise, front, add, record, bytes.Equal. -/
import Derived.Test.YtemllidcnamlmaaWords
import Derived.Test.YtemllidcnamlmaaPure
import Derived.BigQuiet
import Derived.Deep.QuietTactic
import Derived.Deep.RegionLaw
import Derived.StillTailTactics
namespace Go.Proofs.Ytemllidcnamlmaa
open Go.RowKit
theorem info30 : (Try.prog.info? 30).map (fun i => (i.zero, i.size, i.bytes)) = some (some (.slice none 0 0), 1, 24) := by kernel_rfl
theorem info5 : (Try.prog.info? 5).map (fun i => (i.zero, i.size, i.bytes)) = some (some (.int .u8 0), 1, 1) := by kernel_rfl

theorem hide {p : Prop} (h : p) : Hid p := h
abbrev retUnit : Ending := .returned (.tuple #[])
abbrev noPanic : Ending := .panicked [{ v := .iface 55 (.agg #[]), recovered := false }]

/-- What a step may change: the state's own block, the row of its records, new memory. -/
structure Chg (w w' : World) (s : Nat) (rv : Value) : Prop where
  os : w'.os = w.os
  tape : w'.tape = w.tape
  output : w'.output = w.output
  size : w.heap.size ≤ w'.heap.size
  block : ∀ k, k < w.heap.size → k ≠ s → some k ≠ rv.ownBlock → w'.heap[k]? = w.heap[k]?

theorem Chg.refl (w : World) (s : Nat) (rv : Value) : Chg w w s rv := ⟨rfl, rfl, rfl, Nat.le_refl _, fun _ _ _ _ => rfl⟩
theorem Chg.drew {a w : World} {s : Nat} {rv : Value} (h : Chg a w s rv) : Chg a w.drew s rv := ⟨h.os, h.tape, h.output, h.size, h.block⟩
theorem Chg.drewN {a w : World} {s : Nat} {rv : Value} (h : Chg a w s rv) (n : Nat) : Chg a (w.drewN n) s rv := ⟨h.os, h.tape, h.output, h.size, h.block⟩
theorem Chg.alloc {a w : World} {s : Nat} {rv : Value} (h : Chg a w s rv) (o : Obj) : Chg a (w.alloc o) s rv :=
  ⟨h.os, h.tape, h.output, by have := h.size; simp; omega, fun k hk h1 h2 => by
    rw [Below.heap_alloc _ _ _ (by have := h.size; omega)]; exact h.block k hk h1 h2⟩
theorem Chg.setCell {a w : World} {s : Nat} {rv : Value} (h : Chg a w s rv) {p : Addr} (hp : p.block = s ∨ a.heap.size ≤ p.block) (u : Value) : Chg a (w.setCell p u) s rv :=
  ⟨h.os, h.tape, h.output, by have := h.size; simp [World.setCell]; omega, fun k hk h1 h2 => by
    rw [Below.heap_setCell _ _ _ _ (by omega)]; exact h.block k hk h1 h2⟩
theorem Chg.trans {a b c : World} {s : Nat} {rv rv' : Value} (h : Chg a b s rv) (h' : Chg b c s rv') (hr : ∀ k, rv'.ownBlock = some k → some k = rv.ownBlock ∨ a.heap.size ≤ k) : Chg a c s rv :=
  ⟨h'.os.trans h.os, h'.tape.trans h.tape, h'.output.trans h.output, Nat.le_trans h.size h'.size, fun k hk h1 h2 => by
    refine (h'.block k (Nat.lt_of_lt_of_le hk h.size) h1 (fun e => ?_)).trans (h.block k hk h1 h2)
    rcases hr k e.symm with e | e
    · exact h2 e
    · omega⟩
theorem Chg.grown {a w w' : World} {s : Nat} {rv rv' : Value} (h : Chg a w s rv) (hg : w.grownBy w' rv'.ownBlock) (hr : ∀ k, rv'.ownBlock = some k → some k = rv.ownBlock ∨ a.heap.size ≤ k) : Chg a w' s rv :=
  ⟨hg.os.trans h.os, hg.tape.trans h.tape, hg.output.trans h.output, Nat.le_trans h.size hg.size, fun k hk h1 h2 => by
    refine (hg.block k (Nat.lt_of_lt_of_le hk h.size) (fun e => ?_)).trans (h.block k hk h1 h2)
    rcases hr k e.symm with e | e
    · exact h2 e
    · omega⟩
theorem Chg.below {w w' : World} {s : Nat} {rv : Value} {B : Nat} (h : Chg w w' s rv) (hB : B ≤ w.heap.size) (hs : B ≤ s) (hr : ∀ k, rv.ownBlock = some k → B ≤ k) : Below B w w' :=
  ⟨h.os, h.tape, h.output, h.size, fun k hk => h.block k (by omega) (by omega) (fun e => by have := hr k e.symm; omega)⟩

def cells (m : MS) (rv : Value) : Array Value := #[.int .i64 m.base, .int .i64 m.first, .int .i64 m.durable, .int .i64 m.next, .int .i64 m.limit, rv, .bool m.failed, .bool m.closed]

/-- Block s is a state that is m; its records' row is rv, the rows of their bytes are vs; all from block B on. -/
structure St (w : World) (B s : Nat) (m : MS) (rv : Value) (vs : List Value) : Prop where
  blk : Blk w s 48 (cells m rv)
  row : w.ownsRow B 30 1 rv m.recs.length vs
  one : ∀ (i : Nat) (x : Value) (l : List Int), vs[i]? = some x → m.recs[i]? = some l → w.ownsRow B 5 1 x l.length (l.map (Value.int .u8))
  low : B ≤ s

theorem St.len {w : World} {B s : Nat} {m : MS} {rv : Value} {vs : List Value} (h : St w B s m rv vs) : vs.length = m.recs.length := by have := h.row.1; omega
theorem St.rowlow {w : World} {B s : Nat} {m : MS} {rv : Value} {vs : List Value} (h : St w B s m rv vs) : ∀ k, rv.ownBlock = some k → B ≤ k := fun k hk => (h.row.lt k hk).1

/-- Where the row and its records' bytes stayed, and the state's own block is told anew. -/
theorem St.turn {w w' : World} {B s : Nat} {m m' : MS} {rv : Value} {vs : List Value} (h : St w B s m rv vs)
    (hk : ∀ k, k < w.heap.size → k ≠ s → w'.heap[k]? = w.heap[k]?) (_hz : w.heap.size ≤ w'.heap.size)
    (hb : Blk w' s 48 (cells m' rv)) (hr : m'.recs = m.recs) : St w' B s m' rv vs := by
  have own : ∀ {e : TypeId} {v : Value} {n : Nat} {xs : List Value}, e ≠ 48 → w.ownsRow B e 1 v n xs → w'.ownsRow B e 1 v n xs := by
    intro e v n xs he ho
    refine ⟨ho.1, ?_⟩
    rcases ho.2 with hn | ⟨g, cap, cur, hv, hg, hh, r⟩
    · exact .inl hn
    · refine .inr ⟨g, cap, cur, hv, hg, ?_, r⟩
      have hlt : g < w.heap.size := Blk.lt hh
      have hne : g ≠ s := Blk.ne_ hh h.blk he
      rw [hk g hlt hne]
      exact hh
  refine ⟨hb, ?_, ?_, h.low⟩
  · rw [hr]; exact own (by decide) h.row
  · rw [hr]; exact fun i x l hx hl => own (by decide) (h.one i x l hx hl)

/-- What a step comes to: the state told by 'o', or the package's own panic. -/
structure Post (B s : Nat) (rv : Value) (w : World) (o : Option MS) (e : Ending) (w' : World) : Prop where
  chg : Chg w w' s rv
  stops : o = none → e = noPanic
  goes : ∀ m', o = some m' → e = retUnit ∧ ∃ rv' vs', St w' B s m' rv' vs' ∧ (∀ k, rv'.ownBlock = some k → some k = rv.ownBlock ∨ w.heap.size ≤ k)

theorem Post.stop {B s : Nat} {rv : Value} {w : World} {o : Option MS} {e : Ending} {w' : World} (hc : Chg w w' s rv) (ho : o = none) (he : e = noPanic) : Post B s rv w o e w' :=
  ⟨hc, fun _ => he, fun m' h => by rw [ho] at h; cases h⟩
theorem Post.go {B s : Nat} {rv rv' : Value} {vs' : List Value} {w : World} {o : Option MS} {m' : MS} {e : Ending} {w' : World} (hc : Chg w w' s rv) (ho : o = some m') (he : e = retUnit)
    (hs : St w' B s m' rv' vs') (hr : ∀ k, rv'.ownBlock = some k → some k = rv.ownBlock ∨ w.heap.size ≤ k) : Post B s rv w o e w' :=
  ⟨hc, fun h => (by rw [ho] at h; cases h), fun k h => by rw [ho] at h; injection h with h; subst h; exact ⟨he, rv', vs', hs, hr⟩⟩

theorem may_true (w : World) : Calls Try.prog 14 #[.bool true] w fun e w' => e = retUnit ∧ w = w' := by
  go_enter Try.func14, Try.ntmps14
  go_wp2
  go_end0
  exact ⟨rfl, rfl⟩
theorem may_false (w : World) : Calls Try.prog 14 #[.bool false] w fun e w' => e = noPanic ∧ w = w' := by
  go_enter Try.func14, Try.ntmps14
  go_wp2
  exact ⟨rfl, rfl, rfl⟩
theorem sane_true (s : Nat) (w : World) (h6 : w.cell? ⟨s, 6, none⟩ = some (.bool false)) (h7 : w.cell? ⟨s, 7, none⟩ = some (.bool false)) :
   Calls Try.prog 21 #[.pointer (some ⟨s, 0, none⟩)] w fun e w' => e = retUnit ∧ w = w' := by
  go_enter Try.func21, Try.ntmps21
  go_wp2_with (go_at_call 14; refine (may_true _).mono ?_; rintro e w' ⟨rfl, rfl⟩)
  go_end0
  exact ⟨rfl, rfl⟩
theorem sane_false (s : Nat) (w : World) (f c : Bool) (h6 : w.cell? ⟨s, 6, none⟩ = some (.bool f)) (h7 : w.cell? ⟨s, 7, none⟩ = some (.bool c)) (hfc : ¬ (f = false ∧ c = false)) :
   Calls Try.prog 21 #[.pointer (some ⟨s, 0, none⟩)] w fun e w' => e = noPanic ∧ w = w' := by
  cases f <;> cases c
  · exact absurd ⟨rfl, rfl⟩ hfc
  all_goals
    clear hfc
    go_enter Try.func21, Try.ntmps21
    go_wp2_with (go_at_call 14; refine (may_false _).mono ?_; rintro e w' ⟨rfl, rfl⟩)
    exact ⟨rfl, rfl, rfl⟩
end Go.Proofs.Ytemllidcnamlmaa
