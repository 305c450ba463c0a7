/- The walks of record and add. -/
import Derived.Test.YtemllidcnamlmaaWb
namespace Go.Proofs.Ytemllidcnamlmaa
open Go.RowKit
theorem own_slice {w : World} {base : Nat} {e : TypeId} {size n : Nat} {v : Value} {xs : List Value} (h : w.ownsRow base e size v n xs) : ∃ A c, v = .slice A n c := by
  rcases h.2 with ⟨rfl, rfl⟩ | ⟨g, cap, cur, rfl, _⟩
  · exact ⟨_, _, rfl⟩
  · exact ⟨_, _, rfl⟩

theorem own_cell {w : World} {base : Nat} {e : TypeId} {n : Nat} {v : Value} {xs : List Value} (h : w.ownsRow base e 1 v n xs) (hn : 0 < n) :
    ∃ g c, v = .slice (some ⟨g, 0, none⟩) n c ∧ ∀ j u, xs[j]? = some u → w.cell? ⟨g, j, none⟩ = some u := by
  rcases h.2 with ⟨rfl, h0⟩ | ⟨g, cap, cur, rfl, hb, hh, hnc, hcm, hcs, ht⟩
  · omega
  · refine ⟨g, cap, rfl, fun j u hu => ?_⟩
    have := World.ownsRow.cells h (g := g) rfl j u hu
    have hadd : (⟨g, 0, none⟩ : Addr).add j = ⟨g, j, none⟩ := by unfold Addr.add; split <;> simp_all
    rwa [hadd] at this

theorem record_any (w : World) (B s : Nat) (m : MS) (rv : Value) (vs : List Value) (n : Int) (h : St w B s m rv vs) (hi : m.Inv) (h1 : m.first ≤ n) (h2 : n < m.next) (x : Value) (hx : vs[(n - m.base).toNat]? = some x) :
    Calls Try.prog 28 #[.pointer (some ⟨s, 0, none⟩), .int .i64 n] w fun e w' => e = .returned x ∧ w = w' := by
  have c0 := h.blk.cell 0
  have c5 := h.blk.cell 5
  have ib := hi.base; have i1 := hi.first; have i3 := hi.top1; have inum := hi.num
  unfold top at i3
  obtain ⟨g, c, hrv, hc⟩ := own_cell h.row (by omega)
  have hcx := hc _ _ hx
  subst hrv
  simp [cells] at c0 c5
  have q0 : 0 ≤ n - m.base := by omega
  have q1 : n - m.base < (m.recs.length : Int) := by omega
  have q2 : 0 ≤ n := by omega
  have q3 : n < 9223372036854775807 := by omega
  have q4 : m.base ≤ n := by omega
  have q5 : m.base < 9223372036854775807 := by omega
  clear h hi hc hx i1 inum h1 h2 i3
  go_enter Try.func28, Try.ntmps28
  go_wp2_with (go_at_call 14; refine (may_true _).mono ?_; rintro e w' ⟨rfl, rfl⟩)
  go_ret
  exact ⟨rfl, rfl⟩

theorem own_ne_nil (v : Value) : v.ownBlock = none ∨ v.ownBlock ≠ (Value.slice none 0 0).ownBlock := by
  cases h : v.ownBlock with
  | none => exact .inl rfl
  | some k => exact .inr (by simp [Value.ownBlock])

theorem own_own_ne {w : World} {B B' : Nat} {e e' : TypeId} {n n' : Nat} {v v' : Value} {xs xs' : List Value} (h : w.ownsRow B e 1 v n xs) (h' : w.ownsRow B' e' 1 v' n' xs') (hne : e ≠ e') :
    v.ownBlock = none ∨ v.ownBlock ≠ v'.ownBlock := by
  rcases h.2 with ⟨rfl, _⟩ | ⟨g, cap, cur, rfl, _, hh, _⟩
  · exact .inl rfl
  · refine .inr (fun k => ?_)
    have hb : Blk w g e cur := hh
    exact own_blk_ne h' hb (fun q => hne q.symm) (by rw [← k]; rfl)

theorem own_set {w : World} {B s : Nat} {e t : TypeId} {n : Nat} {v : Value} {xs : List Value} {cs : Array Value} (h : w.ownsRow B e 1 v n xs) (hb : Blk w s t cs) (hne : e ≠ t) (i : Nat) (u : Value) :
    (w.setCell ⟨s, i, none⟩ u).ownsRow B e 1 v n xs := by
  refine ⟨h.1, ?_⟩
  rcases h.2 with hn | ⟨g, cap, cur, hv, hg, hh, r⟩
  · exact .inl hn
  · refine .inr ⟨g, cap, cur, hv, hg, ?_, r⟩
    have hbl : Blk w g e cur := hh
    rw [Below.heap_setCell _ _ _ _ (Blk.ne_ hbl hb hne)]
    exact hh

theorem Reads.one_new (w : World) (v : Value) (t : TypeId) : Reads (w.alloc (.cells #[v] t)) (w.alloc (.cells #[v] t)).heap.size 1 (some ⟨w.heap.size, 0, none⟩) 1 [v] := by
  refine ⟨rfl, fun _ => ⟨_, rfl, by simp, fun j u hu => ?_⟩⟩
  have hadd : (⟨w.heap.size, 0, none⟩ : Addr).add j = ⟨w.heap.size, j, none⟩ := by unfold Addr.add; split <;> simp_all
  rw [hadd, (Blk.new w t #[v]).cell j]
  simpa using hu

/-- Behind the two appends: the state's block in the new world. -/
theorem St.two {w w1 w2 : World} {B s : Nat} {m : MS} {rv : Value} {vs : List Value} {o : Obj} (h : St w B s m rv vs) (hg1 : w.grownBy w1 (Value.slice none 0 0).ownBlock) (hg2 : (w1.alloc o).grownBy w2 rv.ownBlock) :
    Blk w2 s 48 (cells m rv) := by
  have hb := h.blk
  have hne : some s ≠ rv.ownBlock := fun k => own_blk_ne h.row hb (by decide) k.symm
  exact ((hb.grown hg1 (by simp [Value.ownBlock])).alloc o).grown hg2 hne

theorem St.added {w w1 w2 : World} {B s : Nat} {m : MS} {rv v1 v2 : Value} {vs : List Value} {o : Obj} {l : List Int} {n : Nat} {m' : MS} (h : St w B s m rv vs) (hg1 : w.grownBy w1 (Value.slice none 0 0).ownBlock)
    (hg2 : (w1.alloc o).grownBy w2 rv.ownBlock) (hown1 : w1.ownsRow B 5 1 v1 (0 + n) ([] ++ l.map (Value.int .u8))) (hn : n = l.length) (hown2 : w2.ownsRow B 30 1 v2 (m.recs.length + 1) (vs ++ [v1]))
    (hm : cells m' v2 = ((cells m rv).setIfInBounds 5 v2).setIfInBounds 3 (.int .i64 m'.next)) (hr : m'.recs = m.recs ++ [l]) :
    St ((w2.setCell ⟨s, 5, none⟩ v2).setCell ⟨s, 3, none⟩ (.int .i64 m'.next)) B s m' v2 (vs ++ [v1]) := by
  have b2 := h.two hg1 hg2
  have b3 := b2.set_ 5 v2
  have kept : ∀ {x : Value} {k : Nat} {xs : List Value}, w1.ownsRow B 5 1 x k xs → ((w2.setCell ⟨s, 5, none⟩ v2).setCell ⟨s, 3, none⟩ (.int .i64 m'.next)).ownsRow B 5 1 x k xs := by
    intro x k xs hx
    have hrow1 : (w1.alloc o).ownsRow B 30 1 rv m.recs.length vs := (h.row.kept hg1 (own_ne_nil _)).alloc o
    have hx1 := (hx.alloc o).kept hg2 (own_own_ne (hx.alloc o) hrow1 (by decide))
    exact own_set (own_set hx1 b2 (by decide) 5 v2) b3 (by decide) 3 _
  refine ⟨?_, ?_, ?_, h.low⟩
  · rw [hm]; exact b3.set_ 3 _
  · rw [hr]
    simpa using own_set (own_set hown2 b2 (by decide) 5 v2) b3 (by decide) 3 (.int .i64 m'.next)
  · intro i x k hx hk
    rw [hr] at hk
    have hlen := h.len
    by_cases hi : i < vs.length
    · rw [List.getElem?_append_left hi] at hx
      rw [List.getElem?_append_left (by omega)] at hk
      exact kept ((h.one i x k hx hk).kept hg1 (own_ne_nil _))
    · rw [List.getElem?_append_right (by omega)] at hx
      rw [List.getElem?_append_right (by omega)] at hk
      have hi0 : i - vs.length = 0 := by
        rcases Nat.eq_zero_or_pos (i - vs.length) with h0 | h0
        · exact h0
        · rw [List.getElem?_eq_none (by simp; omega)] at hx; cases hx
      have hi1 : i - m.recs.length = 0 := by omega
      rw [hi0] at hx
      rw [hi1] at hk
      simp at hx hk
      subst hx hk
      have := kept hown1
      simpa [hn] using this

set_option maxHeartbeats 1000000 in
/-- A state's records with one more. -/
theorem add_any (w : World) (B s : Nat) (m : MS) (rv : Value) (vs : List Value) (lsn : Int) (A : Option Addr) (n c : Nat) (l : List Int) (h : St w B s m rv vs) (hi : m.Inv) (hd : Byt w w.heap.size A n c l) :
    Calls Try.prog 13 #[.pointer (some ⟨s, 0, none⟩), .int .i64 lsn, .slice A n c] w (Post B s rv w (m.add lsn l)) := by
  obtain ⟨i5, hi5, hz5, hs5, hb5⟩ := info_parts info5
  obtain ⟨i30, hi30, hz30, hs30, hb30⟩ := info_parts info30
  have c3 := h.blk.cell 3
  have c5 := h.blk.cell 5
  have c6 := h.blk.cell 6
  have c7 := h.blk.cell 7
  have ln : n = l.length := by have := hd.1.1; simp at this; omega
  have ib := hi.base; have i1 := hi.first; have i2 := hi.dur; have i3 := hi.next; have i4 := hi.few
  simp [cells] at c3 c5 c6 c7
  have hlow := h.low
  have hslt := h.blk.lt
  have H := hide h
  have HD := hide hd
  by_cases hsane : m.sane
  · by_cases hlen : l.length ≤ 4096
    · by_cases hl : lsn = m.next
      · by_cases ht : lsn < top
        · have hp : m.add lsn l = some { m with recs := m.recs ++ [l], next := m.next + 1 } := if_pos ⟨hsane, hlen, hl, ht⟩
          rw [hp]
          obtain ⟨hs1, hs2⟩ := hsane
          rw [hs1] at c6
          rw [hs2] at c7
          unfold top at ht
          have hn : n ≤ 4096 := by omega
          have hl0 : 0 ≤ lsn := by omega
          have hmn : m.next < 9223372036854775807 := by omega
          have hm0 : 0 ≤ m.next := by omega
          have LN := hide ln
          have S1 := hide hs1
          have S2 := hide hs2
          have hBw : B ≤ w.heap.size := by omega
          clear h hp hd hlen ib i1 i2 i3 ln hs1 hs2
          subst hl
          go_enter Try.func13, Try.ntmps13
          go_wp2_with (first | (go_at_call 21; refine (sane_true _ _ c6 c7).mono ?_; rintro e w' ⟨rfl, rfl⟩) | (go_at_call 14; refine (may_true _).mono ?_; rintro e w' ⟨rfl, rfl⟩))
          go_region_law (first
            | (refine step_append_any _ rfl (.const (.slice none 0 0)) (.tmp 31) 30 rfl B 5 i5 _ 1 1 Try.underlying30 hi5 hz5 hs5 hb5 rfl (by omega) (.slice none 0 0) 0 [] rfl
                 ⟨by simp, .inl ⟨rfl, rfl⟩⟩ w.heap.size A n c (l.map (Value.int .u8)) rfl HD.out.1 (by simp [Value.oneCell']) (by simp only [maxLen]; omega) (by omega) (by simp; omega) ?_
               intro v1 w1 hown1 hg1 hat1
               have k5 : w1.cell? ⟨s, 5, none⟩ = some rv := hg1.cell c5 (by simp [Value.ownBlock])
               have hz1 : w.heap.size ≤ w1.heap.size := hg1.size
               have hg1' : w.grownBy w1 (Value.slice none 0 0).ownBlock := ⟨hg1.os, hg1.tape, hg1.output, hg1.size, hg1.block⟩
               have k5a : ∀ o, (w1.alloc o).cell? ⟨s, 5, none⟩ = some rv := fun o => by rw [World.cell?_alloc_lt w1 o _ (show s < w1.heap.size by omega)]; exact k5
               obtain ⟨A1, e1, hv1⟩ := own_slice hown1
               have OWN1 := hide hown1
               have G1 := hide hg1'
               clear hown1 hg1 hg1' hat1
               rw [hv1])
            | (refine step_append_any _ rfl (.tmp 30) (.tmp 33) 24 rfl B 30 i30 _ 1 24 Try.underlying24 hi30 hz30 hs30 hb30 rfl (by omega) rv m.recs.length vs rfl
                 ((H.out.row.kept G1.out (own_ne_nil _)).alloc _) _ _ 1 1 [_] rfl (Reads.one_new _ _ _) (by simp [Value.oneCell']) (by simp only [maxLen]; omega) (by omega) (by simp; omega) ?_
               intro v2 w2 hown2 hg2 hat2
               have b2 := H.out.two G1.out hg2
               have k3 := b2.cell 3
               have k5' := b2.cell 5
               have k6 := b2.frozen 5
               have k7 := b2.frozen 3
               simp [cells] at k3 k5'
               obtain ⟨A2, e2, hv2⟩ := own_slice hown2
               have hown2' : w2.ownsRow B 30 1 v2 (m.recs.length + 1) (vs ++ [v1]) := by rw [hv1, Nat.zero_add]; exact hown2
               have OWN2 := hide hown2'
               have G2 := hide hg2
               have AT2 := hide hat2
               have hz2 : w1.heap.size + 1 ≤ w2.heap.size := by have := hg2.size; simpa using this
               clear hown2 hown2' hg2 hat2 b2
               rw [hv2]))
          all_goals
            go_wp2
            go_end0
            refine .go (rv' := v2) (vs' := vs ++ [v1]) ?_ rfl rfl ?_ ?_
            · rw [← hv2]
              exact ((((((Chg.refl _ _ _).grown (rv' := .slice none 0 0) G1.out (by simp [Value.ownBlock])).alloc _).grown G2.out (fun k hk => .inl hk.symm)).setCell (p := ⟨s, 5, none⟩) (.inl rfl) _).setCell (p := ⟨s, 3, none⟩) (.inl rfl) _)
            · rw [← hv2]
              exact H.out.added (m' := { m with recs := m.recs ++ [l], next := m.next + 1 }) G1.out G2.out OWN1.out LN.out OWN2.out rfl rfl
            · intro k hk
              rcases AT2.out with e | e <;> rw [e] at hk
              · exact .inl hk.symm
              · injection hk with hk
                simp at hk
                exact .inr (by omega)
        · have hp : m.add lsn l = none := if_neg (fun k => ht k.2.2.2)
          rw [hp]
          obtain ⟨hs1, hs2⟩ := hsane
          rw [hs1] at c6
          rw [hs2] at c7
          unfold top at ht
          have hn : n ≤ 4096 := by omega
          clear h hp hd hlen ib i1 i2 i3 ln hs1 hs2 hi
          subst hl
          have htd : decide (m.next < 9223372036854775807) = false := by simpa using ht
          go_enter Try.func13, Try.ntmps13
          go_wp2_with (first | (go_at_call 21; refine (sane_true _ _ c6 c7).mono ?_; rintro e w' ⟨rfl, rfl⟩) | (go_at_call 14; refine (may_false _).mono ?_; rintro e w' ⟨rfl, rfl⟩))
          exact ⟨rfl, .stop (.refl _ _ _) rfl rfl⟩
      · have hp : m.add lsn l = none := if_neg (fun k => hl k.2.2.1)
        rw [hp]
        obtain ⟨hs1, hs2⟩ := hsane
        rw [hs1] at c6
        rw [hs2] at c7
        have hn : n ≤ 4096 := by omega
        clear h hp hd hlen ib i1 i2 i3 ln hs1 hs2 hi
        go_enter Try.func13, Try.ntmps13
        go_wp2_with (first | (go_at_call 21; refine (sane_true _ _ c6 c7).mono ?_; rintro e w' ⟨rfl, rfl⟩) | (go_at_call 14; refine (may_false _).mono ?_; rintro e w' ⟨rfl, rfl⟩))
        exact ⟨rfl, .stop (.refl _ _ _) rfl rfl⟩
    · have hp : m.add lsn l = none := if_neg (fun k => hlen k.2.1)
      rw [hp]
      obtain ⟨hs1, hs2⟩ := hsane
      rw [hs1] at c6
      rw [hs2] at c7
      have hn : ¬ n ≤ 4096 := by omega
      clear h hp hd hlen ib i1 i2 i3 ln hs1 hs2 hi
      go_enter Try.func13, Try.ntmps13
      go_wp2_with (first | (go_at_call 21; refine (sane_true _ _ c6 c7).mono ?_; rintro e w' ⟨rfl, rfl⟩) | (go_at_call 14; refine (may_false _).mono ?_; rintro e w' ⟨rfl, rfl⟩))
      exact ⟨rfl, .stop (.refl _ _ _) rfl rfl⟩
  · have hp : m.add lsn l = none := if_neg (fun k => hsane k.1)
    rw [hp]
    have S := hide hsane
    clear h hp hd ib i1 i2 i3 ln hi hsane
    go_enter Try.func13, Try.ntmps13
    go_wp2_with (go_at_call 21; refine (sane_false _ _ _ _ c6 c7 S.out).mono ?_; rintro e w' ⟨rfl, rfl⟩)
    exact ⟨rfl, .stop (.refl _ _ _) rfl rfl⟩
end Go.Proofs.Ytemllidcnamlmaa
