/- The walk of own: a state copied into memory of its own. -/
import Derived.Test.YtemllidcnamlmaaWi
namespace Go.Proofs.Ytemllidcnamlmaa
open Go.RowKit

/-- A slice of slices of bytes that reads as rs. -/
def RecsR (w : World) (B : Nat) (A : Option Addr) (n c : Nat) (vs : List Value) (rs : List (List Int)) : Prop :=
  Reads w B 1 A n vs ∧ n ≤ c ∧ rs.length = n ∧ ∀ (i : Nat) (x : Value) (l : List Int), vs[i]? = some x → rs[i]? = some l → ∃ A' n' c', x = .slice A' n' c' ∧ Byt w B A' n' c' l

theorem Reads.at1 {w : World} {B n k : Nat} {A : Option Addr} {xs : List Value} (h : Reads w B 1 A n xs) (hk : k < n) :
    ∃ b o u, A = some ⟨b, o, none⟩ ∧ b < B ∧ xs[k]? = some u ∧ w.cell? ⟨b, o + k, none⟩ = some u := by
  obtain ⟨⟨b, o, sp⟩, u, hA, hb, hx, hc⟩ := h.at_ hk
  obtain ⟨ad', e, _, h0⟩ := h.2 (by omega)
  cases sp with
  | none =>
    have hadd : (⟨b, o, none⟩ : Addr).add k = ⟨b, o + k, none⟩ := by unfold Addr.add; split <;> simp_all
    rw [hadd] at hc
    exact ⟨b, o, u, hA, hb, hx, hc⟩
  | some z =>
    exfalso
    rw [hA] at e
    injection e with e
    subst e
    have h1 := h0 0 _ (List.getElem?_eq_getElem (by have := h.1; omega))
    have : (⟨b, o, some z⟩ : Addr).add 0 = ⟨b, o, some z⟩ := by simp [Addr.add]
    rw [this] at h1
    simp [World.cell?] at h1
    split at h1 <;> simp at h1

theorem St.added5 {w w1 w2 : World} {B s : Nat} {m : MS} {rv v1 v2 : Value} {vs : List Value} {o : Obj} {l : List Int} {n : Nat} {m' : MS} (h : St w B s m rv vs) (hg1 : w.grownBy w1 (Value.slice none 0 0).ownBlock)
    (hg2 : (w1.alloc o).grownBy w2 rv.ownBlock) (hown1 : w1.ownsRow B 5 1 v1 (0 + n) ([] ++ l.map (Value.int .u8))) (hn : n = l.length) (hown2 : w2.ownsRow B 30 1 v2 (m.recs.length + 1) (vs ++ [v1]))
    (hm : cells m' v2 = (cells m rv).setIfInBounds 5 v2) (hr : m'.recs = m.recs ++ [l]) :
    St (w2.setCell ⟨s, 5, none⟩ v2) B s m' v2 (vs ++ [v1]) := by
  have b2 := h.two hg1 hg2
  have kept : ∀ {x : Value} {k : Nat} {xs : List Value}, w1.ownsRow B 5 1 x k xs → (w2.setCell ⟨s, 5, none⟩ v2).ownsRow B 5 1 x k xs := by
    intro x k xs hx
    have hrow1 : (w1.alloc o).ownsRow B 30 1 rv m.recs.length vs := (h.row.kept hg1 (own_ne_nil _)).alloc o
    have hx1 := (hx.alloc o).kept hg2 (own_own_ne (hx.alloc o) hrow1 (by decide))
    exact own_set hx1 b2 (by decide) 5 v2
  refine ⟨?_, ?_, ?_, h.low⟩
  · rw [hm]; exact b2.set_ 5 _
  · rw [hr]
    simpa using own_set hown2 b2 (by decide) 5 v2
  · intro i x k hx hk
    rw [hr] at hk
    have hlen := h.len
    by_cases hi : i < vs.length
    · rw [List.getElem?_append_left hi] at hx
      rw [List.getElem?_append_left (by omega)] at hk
      exact kept ((h.one i x k hx hk).kept hg1 (own_ne_nil _))
    · rw [List.getElem?_append_right (by omega)] at hx
      rw [List.getElem?_append_right (by omega)] at hk
      have hi0 : i - vs.length = 0 := by
        rcases Nat.eq_zero_or_pos (i - vs.length) with h0 | h0
        · exact h0
        · rw [List.getElem?_eq_none (by simp; omega)] at hx; cases hx
      have hi1 : i - m.recs.length = 0 := by omega
      rw [hi0] at hx
      rw [hi1] at hk
      simp at hx hk
      subst hx hk
      have := kept hown1
      simpa [hn] using this

def upto (m : MS) (k : Nat) : MS := { m with recs := m.recs.take k }

/-- The loop's relation: k records are copied. -/
def OwnRel (w : World) (s n : Nat) (m : MS) (i : Value) (wr : World) : Prop :=
  ∃ k : Nat, k ≤ n ∧ i = .int .i64 k ∧ Below w.heap.size w wr ∧ ∃ rv vs, St wr w.heap.size s (upto m k) rv vs

theorem own_start (w : World) (m : MS) (o : Obj) :
    St ((w.alloc o).alloc (.cells (cells m (.slice none 0 0)) 48)) w.heap.size (w.heap.size + 1) (upto m 0) (.slice none 0 0) [] := by
  have hb : Blk ((w.alloc o).alloc (.cells (cells m (.slice none 0 0)) 48)) (w.heap.size + 1) 48 (cells m (.slice none 0 0)) := by
    have := Blk.new (w.alloc o) 48 (cells m (.slice none 0 0))
    simpa using this
  exact ⟨hb, World.ownsRow_nil _ _ _ _, fun i x l h => by simp at h, by omega⟩

set_option maxRecDepth 100000 in
set_option maxHeartbeats 2000000 in
theorem own_any (w : World) (m : MS) (A : Option Addr) (n c : Nat) (vs : List Value) (hr : RecsR w w.heap.size A n c vs m.recs) (hf : m.recs.length ≤ 1000) (hs : ∀ l ∈ m.recs, l.length ≤ 4096) :
    Calls Try.prog 19 #[.agg (cells m (.slice A n c))] w fun e w' => e = .returned (.pointer (some ⟨w.heap.size + 1, 0, none⟩)) ∧ Below w.heap.size w w' ∧ ∃ rv' vs', St w' w.heap.size (w.heap.size + 1) m rv' vs' := by
  obtain ⟨i5, hi5, hz5, hs5, hb5⟩ := info_parts info5
  obtain ⟨i30, hi30, hz30, hs30, hb30⟩ := info_parts info30
  have hn : n ≤ 1000 := by have := hr.2.2.1; omega
  have HR := hide hr
  have HS := hide hs
  have HF := hide hf
  clear hr hs hf
  have H0 := own_start w m (.cells (cells m (.slice A n c)) 26)
  have B0 : Below w.heap.size w ((w.alloc (.cells (cells m (.slice A n c)) 26)).alloc (.cells (cells m (.slice none 0 0)) 48)) := ((Below.refl _ _).alloc (Nat.le_refl _) _).alloc (by simp) _
  unfold cells at H0 B0 ⊢
  go_enter Try.func19, Try.ntmps19
  go_wp2
  generalize (w.alloc _).alloc _ = w0 at H0 B0 ⊢
  have HH := hide H0; have HB := hide B0
  clear H0 B0
  generalize hs0 : w.heap.size + 1 = s at HH ⊢
  have HS0 := hide hs0
  clear hs0
  go_loopw [16] (fun i wr => OwnRel w s n m i wr) (fun i _ => n - (intOf i).toNat)
  case atStart => exact ⟨0, Nat.zero_le _, rfl, HB.out, _, _, HH.out⟩
  case round =>
    obtain ⟨k, hk, rfl, hbel, rv, vr, hst⟩ := hrel
    by_cases hlt : k < n
    · obtain ⟨b, o, x, hA, hb, hx, hcell⟩ := (HR.out.1.below hbel).at1 hlt
      subst hA
      obtain ⟨y, hy⟩ : ∃ y, m.recs[k]? = some y := ⟨_, List.getElem?_eq_getElem (by have := HR.out.2.2.1; omega)⟩
      obtain ⟨A', n', c', hxe, hbyt⟩ := HR.out.2.2.2 k x y hx hy
      subst hxe
      have hyl : y.length ≤ 4096 := HS.out y (List.mem_of_getElem? hy)
      have hn' : n' = y.length := by have := hbyt.1.1; simp at this; omega
      have hn4 : n' ≤ 4096 := by omega
      have HD := hide (hbyt.1.below hbel)
      have HY := hide hy
      have LN := hide hn'
      have s5 := hst.blk.cell 5
      simp [cells] at s5
      have hslt := hst.blk.lt
      have hBw := hbel.size
      have HST := hide hst
      have HBEL := hide hbel
      have hrl : (upto m k).recs.length ≤ 1000 := by unfold upto; simp; omega
      clear hst hbel hbyt hx hy hyl hn'
      go_wp2
      go_region_law (first
        | (refine step_append_any _ rfl (.const (.slice none 0 0)) (.tmp 26) 30 rfl w.heap.size 5 i5 _ 1 1 Try.underlying30 hi5 hz5 hs5 hb5 rfl (by omega) (.slice none 0 0) 0 [] rfl
             ⟨by simp, .inl ⟨rfl, rfl⟩⟩ w.heap.size A' n' c' (y.map (Value.int .u8)) rfl HD.out (by simp [Value.oneCell']) (by simp only [maxLen]; omega) (by omega) (by simp; omega) ?_
           intro v1 w1 hown1 hg1 hat1
           have k5 : w1.cell? ⟨s, 5, none⟩ = some rv := hg1.cell s5 (by simp [Value.ownBlock])
           have hz1 : wr.heap.size ≤ w1.heap.size := hg1.size
           have hg1' : wr.grownBy w1 (Value.slice none 0 0).ownBlock := ⟨hg1.os, hg1.tape, hg1.output, hg1.size, hg1.block⟩
           have k5a : ∀ o, (w1.alloc o).cell? ⟨s, 5, none⟩ = some rv := fun o => by rw [World.cell?_alloc_lt w1 o _ (show s < w1.heap.size by omega)]; exact k5
           obtain ⟨A1, e1, hv1⟩ := own_slice hown1
           have OWN1 := hide hown1
           have G1 := hide hg1'
           clear hown1 hg1 hg1' hat1
           rw [hv1])
        | (refine step_append_any _ rfl (.tmp 25) (.tmp 28) 24 rfl w.heap.size 30 i30 _ 1 24 Try.underlying24 hi30 hz30 hs30 hb30 rfl (by omega) rv (upto m k).recs.length vr rfl
             ((HST.out.row.kept G1.out (own_ne_nil _)).alloc _) _ _ 1 1 [_] rfl (Reads.one_new _ _ _) (by simp [Value.oneCell']) (by simp only [maxLen]; omega) (by omega) (by simp; omega) ?_
           intro v2 w2 hown2 hg2 hat2
           have b2 := HST.out.two G1.out hg2
           have k5' := b2.cell 5
           have k6 := b2.frozen 5
           simp [cells] at k5'
           obtain ⟨A2, e2, hv2⟩ := own_slice hown2
           have hown2' : w2.ownsRow w.heap.size 30 1 v2 ((upto m k).recs.length + 1) (vr ++ [v1]) := by rw [hv1, Nat.zero_add]; exact hown2
           have OWN2 := hide hown2'
           have G2 := hide hg2
           have AT2 := hide hat2
           have hz2 : w1.heap.size + 1 ≤ w2.heap.size := by have := hg2.size; simpa using this
           clear hown2 hown2' hg2 hat2 b2
           rw [hv2]))
      all_goals
        go_wp2
        go_roundw
        case rel =>
          refine ⟨k + 1, by omega, by go_num, ?_, v2, vr ++ [v1], ?_⟩
          · rw [← hv2]
            exact ((((HBEL.out.grown G1.out hBw (by simp [Value.ownBlock])).alloc (by omega) _).grown G2.out (by simp; omega) HST.out.rowlow).setCell (p := ⟨s, 5, none⟩) HST.out.low _)
          · rw [← hv2]
            have hu : (upto m (k + 1)).recs = (upto m k).recs ++ [y] := by
              show m.recs.take (k + 1) = m.recs.take k ++ [y]
              rw [List.take_add_one, HY.out]; rfl
            exact HST.out.added5 (m' := upto m (k + 1)) G1.out G2.out OWN1.out LN.out OWN2.out rfl hu
        case measure => simp [intOf]; omega
    · have hkn : k = n := by omega
      have hmm : upto m n = m := by
        unfold upto
        rw [List.take_of_length_le (by have := HR.out.2.2.1; omega)]
      go_wp2
      go_ret
      have hs1 := HS0.out
      subst hs1
      subst hkn
      rw [hmm] at hst
      exact ⟨rfl, hbel, rv, vr, hst⟩
end Go.Proofs.Ytemllidcnamlmaa
