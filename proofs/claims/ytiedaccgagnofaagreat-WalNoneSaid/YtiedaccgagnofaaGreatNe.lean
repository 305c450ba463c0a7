/- WalNone's own walk. -/
import Derived.Test.YtiedaccgagnofaaGreatNd
namespace Go.Proofs.YtiedaccgagnofaaGreat
open Go.RowKit
set_option maxRecDepth 1000000

/-- The code of the range in WalNone. -/
theorem code4 : ∃ a b, codeAt [1, 1, 1, 1, 0, 1, 0, 0, 1, 0, 0, 1, 1, 1, 1, 0, 1, 0] (bodyOf CT 4) = .rangeFunc (.tmp 61) #[62] a b := ⟨_, _, rfl⟩

/-- What there is ahead of a round: the box of the call, the result's cell, the row of the logs, the zero log; what is held. -/
structure NoneSt (H : LH) (ic ir il iz : Nat) (k l : Int) (p : Option Addr) (m c : Nat) (rs : List Nat) : Prop where
  c1 : ic < H.next
  c2 : H.at ic = some (.cells [.int .i64 k, .int .i64 l, .slice p m c] 57 1)
  r1 : ir < H.next
  r2 : H.at ir = some (.cells [.bool false] 4 1)
  l1 : il < H.next
  l2 : H.at il = some (.cells [.pointer none, .pointer (some ⟨iz, 0, none⟩)] 25 1)
  z1 : iz < H.next
  z2 : H.at iz = some (.cells [.int .i32 0, .int .u32 0, .pointer none] 67 1)
  h1 : rs.Nodup
  h2 : ∀ r, r ∈ rs → r < H.next ∧ H.at r = some .held
theorem NoneSt.ext {H H' : LH} {ic ir il iz : Nat} {k l : Int} {p : Option Addr} {m c : Nat} {rs : List Nat} (h : NoneSt H ic ir il iz k l p m c rs) (he : Ext H H') : NoneSt H' ic ir il iz k l p m c rs :=
  ⟨Nat.lt_of_lt_of_le h.c1 he.next, (he.at h.c1).trans h.c2, Nat.lt_of_lt_of_le h.r1 he.next, (he.at h.r1).trans h.r2, Nat.lt_of_lt_of_le h.l1 he.next, (he.at h.l1).trans h.l2, Nat.lt_of_lt_of_le h.z1 he.next, (he.at h.z1).trans h.z2, h.h1,
    fun r hr => ⟨Nat.lt_of_lt_of_le (h.h2 r hr).1 he.next, (he.at (h.h2 r hr).1).trans (h.h2 r hr).2⟩⟩

theorem kb77 : kbin CT .neq 77 (.tmp 97) (.tmp 98) (.agg #[.int .i64 0, .int .i64 0, .int .i64 0, .int .i64 0, .int .i64 0, .int .i64 0, .int .i64 0, .int .i64 0, .float .f64 0, .bool false, .bool false, .bool false, .int .i64 0]) (.agg #[.int .i64 0, .int .i64 0, .int .i64 0, .int .i64 0, .int .i64 0, .int .i64 0, .int .i64 0, .int .i64 0, .float .f64 0, .bool false, .bool false, .bool false, .int .i64 0]) = some (.bool false) := by kernel_rfl

set_option maxHeartbeats 2000000 in
theorem none_ok {n : Nat} {H : LH} (k l lsn : Int) (p : Option Addr) (m c : Nat) (hp : PlainAddr p) : Ev (lcall CT (n + 6) 4 [.agg #[.int .i64 k, .int .i64 l, .slice p m c], .int .i64 lsn] H) fun v _ => v = .bool true := by
  refine ev_l (fun _ => L4) ?_
  unfold R4
  (repeat ((first
    | ((with_reducible apply ev_new); ((try simp only [LL]); exact rfl))
    | ((with_reducible apply ev_alloc); exact rfl; ((simp only [ZCS]); exact rfl))
    | ((with_reducible apply ev_load); exact rfl; exact rfl; (repeat (first | exact at_put_same _ _ _ | exact at_new_same _ _ | assumption | refine (at_gap _ _ _).trans ?_ | refine (at_new_ne (by (first | assumption | ((try simp only [NX]); omega)))).trans ?_ | refine (at_put_ne (by (first | assumption | ((try simp only [NX]); omega)))).trans ?_ | refine (Ext.at (by assumption) (by (first | assumption | ((try simp only [NX]); omega)))).trans ?_)); exact rfl)
    | ((with_reducible apply ev_loads); exact rfl; exact rfl; exact rfl; (repeat (first | exact at_put_same _ _ _ | exact at_new_same _ _ | assumption | refine (at_gap _ _ _).trans ?_ | refine (at_new_ne (by (first | assumption | ((try simp only [NX]); omega)))).trans ?_ | refine (at_put_ne (by (first | assumption | ((try simp only [NX]); omega)))).trans ?_ | refine (Ext.at (by assumption) (by (first | assumption | ((try simp only [NX]); omega)))).trans ?_)); exact Nat.le_of_ble_eq_true rfl; ((try simp only [LL]); exact rfl))
    | ((with_reducible apply ev_store); exact rfl; (repeat (first | exact at_put_same _ _ _ | exact at_new_same _ _ | assumption | refine (at_gap _ _ _).trans ?_ | refine (at_new_ne (by (first | assumption | ((try simp only [NX]); omega)))).trans ?_ | refine (at_put_ne (by (first | assumption | ((try simp only [NX]); omega)))).trans ?_ | refine (Ext.at (by assumption) (by (first | assumption | ((try simp only [NX]); omega)))).trans ?_)); ((try simp only [LL]); exact rfl); exact rfl; exact Nat.le_of_ble_eq_true rfl; exact rfl; ((try simp only [LL]); exact rfl))
    | ((with_reducible apply ev_build); exact rfl; exact rfl; exact rfl; ((simp only [ZCS]); exact rfl); ((try simp only [LL]); exact rfl))
    | ((with_reducible apply ev_fieldAddr); exact rfl; exact rfl; exact rfl; exact rfl; ((try simp only [NG]); exact rfl))
    | ((with_reducible apply ev_buildSlice); exact rfl; exact rfl; ((simp only [ZCS]); exact rfl); exact rfl; ((try simp only [LL]); exact rfl))
    | ((with_reducible apply ev_indexAddr); exact rfl; exact rfl; exact rfl; (first | exact Nat.le_of_ble_eq_true rfl | assumption | omega); ((try simp only [LL]); exact rfl))
    | ((with_reducible apply ev_extract); exact rfl)
    | ((with_reducible apply ev_field); exact rfl; exact rfl; exact rfl; exact rfl; exact rfl)
    | ((with_reducible apply ev_condT); exact rfl)
    | ((with_reducible apply ev_condF); exact rfl)
    | ((with_reducible apply ev_test); exact veq_refl _ _ rfl)
    | ((with_reducible apply ev_ko); exact rfl)); try simp only [NB]))
  refine ev_ko2' ((lcall_spec (C := CT) (f := 8) rfl).trans rfl) ?_
  (repeat ((first
    | ((with_reducible apply ev_new); ((try simp only [LL]); exact rfl))
    | ((with_reducible apply ev_alloc); exact rfl; ((simp only [ZCS]); exact rfl))
    | ((with_reducible apply ev_load); exact rfl; exact rfl; (repeat (first | exact at_put_same _ _ _ | exact at_new_same _ _ | assumption | refine (at_gap _ _ _).trans ?_ | refine (at_new_ne (by (first | assumption | ((try simp only [NX]); omega)))).trans ?_ | refine (at_put_ne (by (first | assumption | ((try simp only [NX]); omega)))).trans ?_ | refine (Ext.at (by assumption) (by (first | assumption | ((try simp only [NX]); omega)))).trans ?_)); exact rfl)
    | ((with_reducible apply ev_loads); exact rfl; exact rfl; exact rfl; (repeat (first | exact at_put_same _ _ _ | exact at_new_same _ _ | assumption | refine (at_gap _ _ _).trans ?_ | refine (at_new_ne (by (first | assumption | ((try simp only [NX]); omega)))).trans ?_ | refine (at_put_ne (by (first | assumption | ((try simp only [NX]); omega)))).trans ?_ | refine (Ext.at (by assumption) (by (first | assumption | ((try simp only [NX]); omega)))).trans ?_)); exact Nat.le_of_ble_eq_true rfl; ((try simp only [LL]); exact rfl))
    | ((with_reducible apply ev_store); exact rfl; (repeat (first | exact at_put_same _ _ _ | exact at_new_same _ _ | assumption | refine (at_gap _ _ _).trans ?_ | refine (at_new_ne (by (first | assumption | ((try simp only [NX]); omega)))).trans ?_ | refine (at_put_ne (by (first | assumption | ((try simp only [NX]); omega)))).trans ?_ | refine (Ext.at (by assumption) (by (first | assumption | ((try simp only [NX]); omega)))).trans ?_)); ((try simp only [LL]); exact rfl); exact rfl; exact Nat.le_of_ble_eq_true rfl; exact rfl; ((try simp only [LL]); exact rfl))
    | ((with_reducible apply ev_build); exact rfl; exact rfl; exact rfl; ((simp only [ZCS]); exact rfl); ((try simp only [LL]); exact rfl))
    | ((with_reducible apply ev_fieldAddr); exact rfl; exact rfl; exact rfl; exact rfl; ((try simp only [NG]); exact rfl))
    | ((with_reducible apply ev_buildSlice); exact rfl; exact rfl; ((simp only [ZCS]); exact rfl); exact rfl; ((try simp only [LL]); exact rfl))
    | ((with_reducible apply ev_indexAddr); exact rfl; exact rfl; exact rfl; (first | exact Nat.le_of_ble_eq_true rfl | assumption | omega); ((try simp only [LL]); exact rfl))
    | ((with_reducible apply ev_extract); exact rfl)
    | ((with_reducible apply ev_field); exact rfl; exact rfl; exact rfl; exact rfl; exact rfl)
    | ((with_reducible apply ev_condT); exact rfl)
    | ((with_reducible apply ev_condF); exact rfl)
    | ((with_reducible apply ev_test); exact veq_refl _ _ rfl)
    | ((with_reducible apply ev_ko); exact rfl)); try simp only [NB]))
  refine ev_ko2 (Q1 := fun e s => e = .exit 0 ∧ ∃ ic ir il iz rs, lk s.tmps 1 = .int .i64 lsn ∧ lk s.tmps 4 = .pointer (some ⟨ir, 0, none⟩) ∧ s.defers = rs.map (fun r => ⟨.collected r, #[]⟩) ∧ NoneSt s.heap ic ir il iz k l p m c rs) ?_ ?_
  · refine ev_state fun s0 hT hD hH => ?_
    have f6 := lk_of (t := 6) hT rfl; have f7 := lk_of (t := 7) hT rfl; have f2 := lk_of (t := 2) hT rfl; have f1 := lk_of (t := 1) hT rfl; have f4 := lk_of (t := 4) hT rfl
    have st0 : NoneSt s0.heap H.next (H.next + 1) (H.next + 1 + 1 + 1) (H.next + 1 + 1) k l p m c [] := by
      rw [hH]
      exact ⟨by (first | assumption | ((try simp only [NX]); omega)), by (repeat (first | exact at_put_same _ _ _ | exact at_new_same _ _ | assumption | refine (at_gap _ _ _).trans ?_ | refine (at_new_ne (by (first | assumption | ((try simp only [NX]); omega)))).trans ?_ | refine (at_put_ne (by (first | assumption | ((try simp only [NX]); omega)))).trans ?_ | refine (Ext.at (by assumption) (by (first | assumption | ((try simp only [NX]); omega)))).trans ?_)), by (first | assumption | ((try simp only [NX]); omega)), by (repeat (first | exact at_put_same _ _ _ | exact at_new_same _ _ | assumption | refine (at_gap _ _ _).trans ?_ | refine (at_new_ne (by (first | assumption | ((try simp only [NX]); omega)))).trans ?_ | refine (at_put_ne (by (first | assumption | ((try simp only [NX]); omega)))).trans ?_ | refine (Ext.at (by assumption) (by (first | assumption | ((try simp only [NX]); omega)))).trans ?_)), by (first | assumption | ((try simp only [NX]); omega)), by (repeat (first | exact at_put_same _ _ _ | exact at_new_same _ _ | assumption | refine (at_gap _ _ _).trans ?_ | refine (at_new_ne (by (first | assumption | ((try simp only [NX]); omega)))).trans ?_ | refine (at_put_ne (by (first | assumption | ((try simp only [NX]); omega)))).trans ?_ | refine (Ext.at (by assumption) (by (first | assumption | ((try simp only [NX]); omega)))).trans ?_)), by (first | assumption | ((try simp only [NX]); omega)), by (repeat (first | exact at_put_same _ _ _ | exact at_new_same _ _ | assumption | refine (at_gap _ _ _).trans ?_ | refine (at_new_ne (by (first | assumption | ((try simp only [NX]); omega)))).trans ?_ | refine (at_put_ne (by (first | assumption | ((try simp only [NX]); omega)))).trans ?_ | refine (Ext.at (by assumption) (by (first | assumption | ((try simp only [NX]); omega)))).trans ?_)), List.nodup_nil, fun r h => by cases h⟩
    clear hH hT
    simp only [next_new] at f2 f4 f6
    obtain ⟨il, e1⟩ : ∃ il, il = H.next + 1 + 1 + 1 := ⟨_, rfl⟩
    rw [← e1] at f6 st0
    obtain ⟨iz, e2⟩ : ∃ iz, iz = H.next + 1 + 1 := ⟨_, rfl⟩
    rw [← e2] at st0
    obtain ⟨ir, e3⟩ : ∃ ir, ir = H.next + 1 := ⟨_, rfl⟩
    rw [← e3] at f4 st0
    obtain ⟨ic, e4⟩ : ∃ ic, ic = H.next := ⟨_, rfl⟩
    rw [← e4] at f2 st0
    clear e1 e2 e3 e4

    refine ev_unroll ?_
    simp only [f6, f7, f2, f1, f4]
    have C1 := st0.c1; have C2 := st0.c2; have R1 := st0.r1; have R2 := st0.r2; have L1 := st0.l1; have L2 := st0.l2; have Z1 := st0.z1; have Z2 := st0.z2
    have hn : NoLog s0.heap (.pointer none) := .inl rfl
    (repeat ((first
    | ((with_reducible apply ev_new); ((try simp only [LL]); exact rfl))
    | ((with_reducible apply ev_alloc); exact rfl; ((simp only [ZCS]); exact rfl))
    | ((with_reducible apply ev_load); exact rfl; exact rfl; (repeat (first | exact at_put_same _ _ _ | exact at_new_same _ _ | assumption | refine (at_gap _ _ _).trans ?_ | refine (at_new_ne (by (first | assumption | ((try simp only [NX]); omega)))).trans ?_ | refine (at_put_ne (by (first | assumption | ((try simp only [NX]); omega)))).trans ?_ | refine (Ext.at (by assumption) (by (first | assumption | ((try simp only [NX]); omega)))).trans ?_)); exact rfl)
    | ((with_reducible apply ev_loads); exact rfl; exact rfl; exact rfl; (repeat (first | exact at_put_same _ _ _ | exact at_new_same _ _ | assumption | refine (at_gap _ _ _).trans ?_ | refine (at_new_ne (by (first | assumption | ((try simp only [NX]); omega)))).trans ?_ | refine (at_put_ne (by (first | assumption | ((try simp only [NX]); omega)))).trans ?_ | refine (Ext.at (by assumption) (by (first | assumption | ((try simp only [NX]); omega)))).trans ?_)); exact Nat.le_of_ble_eq_true rfl; ((try simp only [LL]); exact rfl))
    | ((with_reducible apply ev_store); exact rfl; (repeat (first | exact at_put_same _ _ _ | exact at_new_same _ _ | assumption | refine (at_gap _ _ _).trans ?_ | refine (at_new_ne (by (first | assumption | ((try simp only [NX]); omega)))).trans ?_ | refine (at_put_ne (by (first | assumption | ((try simp only [NX]); omega)))).trans ?_ | refine (Ext.at (by assumption) (by (first | assumption | ((try simp only [NX]); omega)))).trans ?_)); ((try simp only [LL]); exact rfl); exact rfl; exact Nat.le_of_ble_eq_true rfl; exact rfl; ((try simp only [LL]); exact rfl))
    | ((with_reducible apply ev_build); exact rfl; exact rfl; exact rfl; ((simp only [ZCS]); exact rfl); ((try simp only [LL]); exact rfl))
    | ((with_reducible apply ev_fieldAddr); exact rfl; exact rfl; exact rfl; exact rfl; ((try simp only [NG]); exact rfl))
    | ((with_reducible apply ev_buildSlice); exact rfl; exact rfl; ((simp only [ZCS]); exact rfl); exact rfl; ((try simp only [LL]); exact rfl))
    | ((with_reducible apply ev_indexAddr); exact rfl; exact rfl; exact rfl; (first | exact Nat.le_of_ble_eq_true rfl | assumption | omega); ((try simp only [LL]); exact rfl))
    | ((with_reducible apply ev_extract); exact rfl)
    | ((with_reducible apply ev_field); exact rfl; exact rfl; exact rfl; exact rfl; exact rfl)
    | ((with_reducible apply ev_condT); exact rfl)
    | ((with_reducible apply ev_condF); exact rfl)
    | ((with_reducible apply ev_test); exact veq_refl _ _ rfl)
    | ((with_reducible apply ev_ko); exact rfl)); try simp only [NB]))
    refine ev_ko2 (of_ok k l p m c hp) ?_
    rintro v H1 ⟨k', l', p', m', c', rfl, hk, hv, g1⟩
    have g1n := Upd.next g1; (try simp only [NX] at g1n)
    (repeat ((first
    | ((with_reducible apply ev_new); ((try simp only [LL]); exact rfl))
    | ((with_reducible apply ev_alloc); exact rfl; ((simp only [ZCS]); exact rfl))
    | ((with_reducible apply ev_load); exact rfl; exact rfl; (repeat (first | exact at_put_same _ _ _ | exact at_new_same _ _ | assumption | refine (at_gap _ _ _).trans ?_ | refine (at_new_ne (by (first | assumption | ((try simp only [NX]); omega)))).trans ?_ | refine (at_put_ne (by (first | assumption | ((try simp only [NX]); omega)))).trans ?_ | refine (Ext.at (by assumption) (by (first | assumption | ((try simp only [NX]); omega)))).trans ?_)); exact rfl)
    | ((with_reducible apply ev_loads); exact rfl; exact rfl; exact rfl; (repeat (first | exact at_put_same _ _ _ | exact at_new_same _ _ | assumption | refine (at_gap _ _ _).trans ?_ | refine (at_new_ne (by (first | assumption | ((try simp only [NX]); omega)))).trans ?_ | refine (at_put_ne (by (first | assumption | ((try simp only [NX]); omega)))).trans ?_ | refine (Ext.at (by assumption) (by (first | assumption | ((try simp only [NX]); omega)))).trans ?_)); exact Nat.le_of_ble_eq_true rfl; ((try simp only [LL]); exact rfl))
    | ((with_reducible apply ev_store); exact rfl; (repeat (first | exact at_put_same _ _ _ | exact at_new_same _ _ | assumption | refine (at_gap _ _ _).trans ?_ | refine (at_new_ne (by (first | assumption | ((try simp only [NX]); omega)))).trans ?_ | refine (at_put_ne (by (first | assumption | ((try simp only [NX]); omega)))).trans ?_ | refine (Ext.at (by assumption) (by (first | assumption | ((try simp only [NX]); omega)))).trans ?_)); ((try simp only [LL]); exact rfl); exact rfl; exact Nat.le_of_ble_eq_true rfl; exact rfl; ((try simp only [LL]); exact rfl))
    | ((with_reducible apply ev_build); exact rfl; exact rfl; exact rfl; ((simp only [ZCS]); exact rfl); ((try simp only [LL]); exact rfl))
    | ((with_reducible apply ev_fieldAddr); exact rfl; exact rfl; exact rfl; exact rfl; ((try simp only [NG]); exact rfl))
    | ((with_reducible apply ev_buildSlice); exact rfl; exact rfl; ((simp only [ZCS]); exact rfl); exact rfl; ((try simp only [LL]); exact rfl))
    | ((with_reducible apply ev_indexAddr); exact rfl; exact rfl; exact rfl; (first | exact Nat.le_of_ble_eq_true rfl | assumption | omega); ((try simp only [LL]); exact rfl))
    | ((with_reducible apply ev_extract); exact rfl)
    | ((with_reducible apply ev_field); exact rfl; exact rfl; exact rfl; exact rfl; exact rfl)
    | ((with_reducible apply ev_condT); exact rfl)
    | ((with_reducible apply ev_condF); exact rfl)
    | ((with_reducible apply ev_test); exact veq_refl _ _ rfl)
    | ((with_reducible apply ev_ko); exact rfl)); try simp only [NB]))
    refine ev_ko2 (do_no (hn.ext (by (repeat (first | exact Ext.refl _ | assumption | refine Upd.put ?_ _ (.inr (by first | exact Nat.le_refl _ | ((try simp only [NX]); omega))) | refine Upd.new ?_ _ | refine Upd.gap ?_ _ | refine Upd.trans ?_ (by assumption))))) _ _ _ _ _ hk) ?_
    rintro v H2 ⟨rfl, g2⟩
    have g2n := Upd.next g2; (try simp only [NX] at g2n)
    (repeat ((first
    | ((with_reducible apply ev_new); ((try simp only [LL]); exact rfl))
    | ((with_reducible apply ev_alloc); exact rfl; ((simp only [ZCS]); exact rfl))
    | ((with_reducible apply ev_load); exact rfl; exact rfl; (repeat (first | exact at_put_same _ _ _ | exact at_new_same _ _ | assumption | refine (at_gap _ _ _).trans ?_ | refine (at_new_ne (by (first | assumption | ((try simp only [NX]); omega)))).trans ?_ | refine (at_put_ne (by (first | assumption | ((try simp only [NX]); omega)))).trans ?_ | refine (Ext.at (by assumption) (by (first | assumption | ((try simp only [NX]); omega)))).trans ?_)); exact rfl)
    | ((with_reducible apply ev_loads); exact rfl; exact rfl; exact rfl; (repeat (first | exact at_put_same _ _ _ | exact at_new_same _ _ | assumption | refine (at_gap _ _ _).trans ?_ | refine (at_new_ne (by (first | assumption | ((try simp only [NX]); omega)))).trans ?_ | refine (at_put_ne (by (first | assumption | ((try simp only [NX]); omega)))).trans ?_ | refine (Ext.at (by assumption) (by (first | assumption | ((try simp only [NX]); omega)))).trans ?_)); exact Nat.le_of_ble_eq_true rfl; ((try simp only [LL]); exact rfl))
    | ((with_reducible apply ev_store); exact rfl; (repeat (first | exact at_put_same _ _ _ | exact at_new_same _ _ | assumption | refine (at_gap _ _ _).trans ?_ | refine (at_new_ne (by (first | assumption | ((try simp only [NX]); omega)))).trans ?_ | refine (at_put_ne (by (first | assumption | ((try simp only [NX]); omega)))).trans ?_ | refine (Ext.at (by assumption) (by (first | assumption | ((try simp only [NX]); omega)))).trans ?_)); ((try simp only [LL]); exact rfl); exact rfl; exact Nat.le_of_ble_eq_true rfl; exact rfl; ((try simp only [LL]); exact rfl))
    | ((with_reducible apply ev_build); exact rfl; exact rfl; exact rfl; ((simp only [ZCS]); exact rfl); ((try simp only [LL]); exact rfl))
    | ((with_reducible apply ev_fieldAddr); exact rfl; exact rfl; exact rfl; exact rfl; ((try simp only [NG]); exact rfl))
    | ((with_reducible apply ev_buildSlice); exact rfl; exact rfl; ((simp only [ZCS]); exact rfl); exact rfl; ((try simp only [LL]); exact rfl))
    | ((with_reducible apply ev_indexAddr); exact rfl; exact rfl; exact rfl; (first | exact Nat.le_of_ble_eq_true rfl | assumption | omega); ((try simp only [LL]); exact rfl))
    | ((with_reducible apply ev_extract); exact rfl)
    | ((with_reducible apply ev_field); exact rfl; exact rfl; exact rfl; exact rfl; exact rfl)
    | ((with_reducible apply ev_condT); exact rfl)
    | ((with_reducible apply ev_condF); exact rfl)
    | ((with_reducible apply ev_test); exact veq_refl _ _ rfl)
    | ((with_reducible apply ev_ko); exact rfl)); try simp only [NB]))
    refine ev_ko2 from_no ?_
    rintro v H3 ⟨rfl, rfl⟩
    (repeat ((first
    | ((with_reducible apply ev_new); ((try simp only [LL]); exact rfl))
    | ((with_reducible apply ev_alloc); exact rfl; ((simp only [ZCS]); exact rfl))
    | ((with_reducible apply ev_load); exact rfl; exact rfl; (repeat (first | exact at_put_same _ _ _ | exact at_new_same _ _ | assumption | refine (at_gap _ _ _).trans ?_ | refine (at_new_ne (by (first | assumption | ((try simp only [NX]); omega)))).trans ?_ | refine (at_put_ne (by (first | assumption | ((try simp only [NX]); omega)))).trans ?_ | refine (Ext.at (by assumption) (by (first | assumption | ((try simp only [NX]); omega)))).trans ?_)); exact rfl)
    | ((with_reducible apply ev_loads); exact rfl; exact rfl; exact rfl; (repeat (first | exact at_put_same _ _ _ | exact at_new_same _ _ | assumption | refine (at_gap _ _ _).trans ?_ | refine (at_new_ne (by (first | assumption | ((try simp only [NX]); omega)))).trans ?_ | refine (at_put_ne (by (first | assumption | ((try simp only [NX]); omega)))).trans ?_ | refine (Ext.at (by assumption) (by (first | assumption | ((try simp only [NX]); omega)))).trans ?_)); exact Nat.le_of_ble_eq_true rfl; ((try simp only [LL]); exact rfl))
    | ((with_reducible apply ev_store); exact rfl; (repeat (first | exact at_put_same _ _ _ | exact at_new_same _ _ | assumption | refine (at_gap _ _ _).trans ?_ | refine (at_new_ne (by (first | assumption | ((try simp only [NX]); omega)))).trans ?_ | refine (at_put_ne (by (first | assumption | ((try simp only [NX]); omega)))).trans ?_ | refine (Ext.at (by assumption) (by (first | assumption | ((try simp only [NX]); omega)))).trans ?_)); ((try simp only [LL]); exact rfl); exact rfl; exact Nat.le_of_ble_eq_true rfl; exact rfl; ((try simp only [LL]); exact rfl))
    | ((with_reducible apply ev_build); exact rfl; exact rfl; exact rfl; ((simp only [ZCS]); exact rfl); ((try simp only [LL]); exact rfl))
    | ((with_reducible apply ev_fieldAddr); exact rfl; exact rfl; exact rfl; exact rfl; ((try simp only [NG]); exact rfl))
    | ((with_reducible apply ev_buildSlice); exact rfl; exact rfl; ((simp only [ZCS]); exact rfl); exact rfl; ((try simp only [LL]); exact rfl))
    | ((with_reducible apply ev_indexAddr); exact rfl; exact rfl; exact rfl; (first | exact Nat.le_of_ble_eq_true rfl | assumption | omega); ((try simp only [LL]); exact rfl))
    | ((with_reducible apply ev_extract); exact rfl)
    | ((with_reducible apply ev_field); exact rfl; exact rfl; exact rfl; exact rfl; exact rfl)
    | ((with_reducible apply ev_condT); exact rfl)
    | ((with_reducible apply ev_condF); exact rfl)
    | ((with_reducible apply ev_test); exact veq_refl _ _ rfl)
    | ((with_reducible apply ev_ko); exact rfl)); try simp only [NB]))
    refine ev_ko2 all_no ?_
    rintro v H3 ⟨rfl, rfl⟩
    (repeat ((first
    | ((with_reducible apply ev_new); ((try simp only [LL]); exact rfl))
    | ((with_reducible apply ev_alloc); exact rfl; ((simp only [ZCS]); exact rfl))
    | ((with_reducible apply ev_load); exact rfl; exact rfl; (repeat (first | exact at_put_same _ _ _ | exact at_new_same _ _ | assumption | refine (at_gap _ _ _).trans ?_ | refine (at_new_ne (by (first | assumption | ((try simp only [NX]); omega)))).trans ?_ | refine (at_put_ne (by (first | assumption | ((try simp only [NX]); omega)))).trans ?_ | refine (Ext.at (by assumption) (by (first | assumption | ((try simp only [NX]); omega)))).trans ?_)); exact rfl)
    | ((with_reducible apply ev_loads); exact rfl; exact rfl; exact rfl; (repeat (first | exact at_put_same _ _ _ | exact at_new_same _ _ | assumption | refine (at_gap _ _ _).trans ?_ | refine (at_new_ne (by (first | assumption | ((try simp only [NX]); omega)))).trans ?_ | refine (at_put_ne (by (first | assumption | ((try simp only [NX]); omega)))).trans ?_ | refine (Ext.at (by assumption) (by (first | assumption | ((try simp only [NX]); omega)))).trans ?_)); exact Nat.le_of_ble_eq_true rfl; ((try simp only [LL]); exact rfl))
    | ((with_reducible apply ev_store); exact rfl; (repeat (first | exact at_put_same _ _ _ | exact at_new_same _ _ | assumption | refine (at_gap _ _ _).trans ?_ | refine (at_new_ne (by (first | assumption | ((try simp only [NX]); omega)))).trans ?_ | refine (at_put_ne (by (first | assumption | ((try simp only [NX]); omega)))).trans ?_ | refine (Ext.at (by assumption) (by (first | assumption | ((try simp only [NX]); omega)))).trans ?_)); ((try simp only [LL]); exact rfl); exact rfl; exact Nat.le_of_ble_eq_true rfl; exact rfl; ((try simp only [LL]); exact rfl))
    | ((with_reducible apply ev_build); exact rfl; exact rfl; exact rfl; ((simp only [ZCS]); exact rfl); ((try simp only [LL]); exact rfl))
    | ((with_reducible apply ev_fieldAddr); exact rfl; exact rfl; exact rfl; exact rfl; ((try simp only [NG]); exact rfl))
    | ((with_reducible apply ev_buildSlice); exact rfl; exact rfl; ((simp only [ZCS]); exact rfl); exact rfl; ((try simp only [LL]); exact rfl))
    | ((with_reducible apply ev_indexAddr); exact rfl; exact rfl; exact rfl; (first | exact Nat.le_of_ble_eq_true rfl | assumption | omega); ((try simp only [LL]); exact rfl))
    | ((with_reducible apply ev_extract); exact rfl)
    | ((with_reducible apply ev_field); exact rfl; exact rfl; exact rfl; exact rfl; exact rfl)
    | ((with_reducible apply ev_condT); exact rfl)
    | ((with_reducible apply ev_condF); exact rfl)
    | ((with_reducible apply ev_test); exact veq_refl _ _ rfl)
    | ((with_reducible apply ev_ko); exact rfl)); try simp only [NB]))
    refine ev_ko2 (next_no (hn.ext (by (repeat (first | exact Ext.refl _ | assumption | refine Upd.put ?_ _ (.inr (by first | exact Nat.le_refl _ | ((try simp only [NX]); omega))) | refine Upd.new ?_ _ | refine Upd.gap ?_ _ | refine Upd.trans ?_ (by assumption))))) (by (first | assumption | ((try simp only [NX]); omega))) (by (repeat (first | exact at_put_same _ _ _ | exact at_new_same _ _ | assumption | refine (at_gap _ _ _).trans ?_ | refine (at_new_ne (by (first | assumption | ((try simp only [NX]); omega)))).trans ?_ | refine (at_put_ne (by (first | assumption | ((try simp only [NX]); omega)))).trans ?_ | refine (Ext.at (by assumption) (by (first | assumption | ((try simp only [NX]); omega)))).trans ?_)))) ?_
    rintro v H3 ⟨rfl, g3⟩
    have g3n := Upd.next g3; (try simp only [NX] at g3n)
    (repeat ((first
    | ((with_reducible apply ev_new); ((try simp only [LL]); exact rfl))
    | ((with_reducible apply ev_alloc); exact rfl; ((simp only [ZCS]); exact rfl))
    | ((with_reducible apply ev_load); exact rfl; exact rfl; (repeat (first | exact at_put_same _ _ _ | exact at_new_same _ _ | assumption | refine (at_gap _ _ _).trans ?_ | refine (at_new_ne (by (first | assumption | ((try simp only [NX]); omega)))).trans ?_ | refine (at_put_ne (by (first | assumption | ((try simp only [NX]); omega)))).trans ?_ | refine (Ext.at (by assumption) (by (first | assumption | ((try simp only [NX]); omega)))).trans ?_)); exact rfl)
    | ((with_reducible apply ev_loads); exact rfl; exact rfl; exact rfl; (repeat (first | exact at_put_same _ _ _ | exact at_new_same _ _ | assumption | refine (at_gap _ _ _).trans ?_ | refine (at_new_ne (by (first | assumption | ((try simp only [NX]); omega)))).trans ?_ | refine (at_put_ne (by (first | assumption | ((try simp only [NX]); omega)))).trans ?_ | refine (Ext.at (by assumption) (by (first | assumption | ((try simp only [NX]); omega)))).trans ?_)); exact Nat.le_of_ble_eq_true rfl; ((try simp only [LL]); exact rfl))
    | ((with_reducible apply ev_store); exact rfl; (repeat (first | exact at_put_same _ _ _ | exact at_new_same _ _ | assumption | refine (at_gap _ _ _).trans ?_ | refine (at_new_ne (by (first | assumption | ((try simp only [NX]); omega)))).trans ?_ | refine (at_put_ne (by (first | assumption | ((try simp only [NX]); omega)))).trans ?_ | refine (Ext.at (by assumption) (by (first | assumption | ((try simp only [NX]); omega)))).trans ?_)); ((try simp only [LL]); exact rfl); exact rfl; exact Nat.le_of_ble_eq_true rfl; exact rfl; ((try simp only [LL]); exact rfl))
    | ((with_reducible apply ev_build); exact rfl; exact rfl; exact rfl; ((simp only [ZCS]); exact rfl); ((try simp only [LL]); exact rfl))
    | ((with_reducible apply ev_fieldAddr); exact rfl; exact rfl; exact rfl; exact rfl; ((try simp only [NG]); exact rfl))
    | ((with_reducible apply ev_buildSlice); exact rfl; exact rfl; ((simp only [ZCS]); exact rfl); exact rfl; ((try simp only [LL]); exact rfl))
    | ((with_reducible apply ev_indexAddr); exact rfl; exact rfl; exact rfl; (first | exact Nat.le_of_ble_eq_true rfl | assumption | omega); ((try simp only [LL]); exact rfl))
    | ((with_reducible apply ev_extract); exact rfl)
    | ((with_reducible apply ev_field); exact rfl; exact rfl; exact rfl; exact rfl; exact rfl)
    | ((with_reducible apply ev_condT); exact rfl)
    | ((with_reducible apply ev_condF); exact rfl)
    | ((with_reducible apply ev_test); exact veq_refl _ _ rfl)
    | ((with_reducible apply ev_ko); exact rfl)); try simp only [NB]))
    refine ev_ko2 all_no ?_
    rintro v H4 ⟨rfl, rfl⟩
    obtain ⟨ca, cb, hc4⟩ := code4
    rw [hc4]
    refine ev_range_ev (f := 42) (lk_hit rfl) rfl rfl (Ev.mono (over_no (hn.ext (by (repeat (first | exact Ext.refl _ | assumption | refine Upd.put ?_ _ (.inr (by first | exact Nat.le_refl _ | ((try simp only [NX]); omega))) | refine Upd.new ?_ _ | refine Upd.gap ?_ _ | refine Upd.trans ?_ (by assumption))))) (by (first | assumption | ((try simp only [NX]); omega))) (by (first | assumption | ((try simp only [NX]); omega))) (by (repeat (first | exact at_put_same _ _ _ | exact at_new_same _ _ | assumption | refine (at_gap _ _ _).trans ?_ | refine (at_new_ne (by (first | assumption | ((try simp only [NX]); omega)))).trans ?_ | refine (at_put_ne (by (first | assumption | ((try simp only [NX]); omega)))).trans ?_ | refine (Ext.at (by assumption) (by (first | assumption | ((try simp only [NX]); omega)))).trans ?_))) (by (repeat (first | exact at_put_same _ _ _ | exact at_new_same _ _ | assumption | refine (at_gap _ _ _).trans ?_ | refine (at_new_ne (by (first | assumption | ((try simp only [NX]); omega)))).trans ?_ | refine (at_put_ne (by (first | assumption | ((try simp only [NX]); omega)))).trans ?_ | refine (Ext.at (by assumption) (by (first | assumption | ((try simp only [NX]); omega)))).trans ?_)))) fun _ _ h => h.2) ?_
    intro s5 g5 n5 a5 t5 d5
    have g5n := Upd.next g5; (try simp only [NX] at g5n)
    obtain ⟨r1, m1, m2, m3, m4⟩ : ∃ r, s0.heap.next ≤ r ∧ r < s5.heap.next ∧ s5.heap.at r = some .held ∧ s5.defers = ⟨.collected r, #[]⟩ :: s0.defers := ⟨_, by (first | assumption | ((try simp only [NX]); omega)), n5, a5, d5⟩
    clear n5 a5 d5
    have q8 := lk_of_hit (t := 8) t5 rfl; have q9 := lk_of_hit (t := 9) t5 rfl; have q10 := lk_of_hit (t := 10) t5 rfl; have q11 := lk_of_hit (t := 11) t5 rfl
    have q6 := lk_of_miss (t := 6) t5 rfl f6; have q7 := lk_of_miss (t := 7) t5 rfl f7; have q2 := lk_of_miss (t := 2) t5 rfl f2; have q1 := lk_of_miss (t := 1) t5 rfl f1; have q4 := lk_of_miss (t := 4) t5 rfl f4
    clear t5
    refine ev_knormal ?_
    simp only [q8, q9, q10, q11, q6, q7, q1, q4]
    (repeat ((first
    | ((with_reducible apply ev_new); ((try simp only [LL]); exact rfl))
    | ((with_reducible apply ev_alloc); exact rfl; ((simp only [ZCS]); exact rfl))
    | ((with_reducible apply ev_load); exact rfl; exact rfl; (repeat (first | exact at_put_same _ _ _ | exact at_new_same _ _ | assumption | refine (at_gap _ _ _).trans ?_ | refine (at_new_ne (by (first | assumption | ((try simp only [NX]); omega)))).trans ?_ | refine (at_put_ne (by (first | assumption | ((try simp only [NX]); omega)))).trans ?_ | refine (Ext.at (by assumption) (by (first | assumption | ((try simp only [NX]); omega)))).trans ?_)); exact rfl)
    | ((with_reducible apply ev_loads); exact rfl; exact rfl; exact rfl; (repeat (first | exact at_put_same _ _ _ | exact at_new_same _ _ | assumption | refine (at_gap _ _ _).trans ?_ | refine (at_new_ne (by (first | assumption | ((try simp only [NX]); omega)))).trans ?_ | refine (at_put_ne (by (first | assumption | ((try simp only [NX]); omega)))).trans ?_ | refine (Ext.at (by assumption) (by (first | assumption | ((try simp only [NX]); omega)))).trans ?_)); exact Nat.le_of_ble_eq_true rfl; ((try simp only [LL]); exact rfl))
    | ((with_reducible apply ev_store); exact rfl; (repeat (first | exact at_put_same _ _ _ | exact at_new_same _ _ | assumption | refine (at_gap _ _ _).trans ?_ | refine (at_new_ne (by (first | assumption | ((try simp only [NX]); omega)))).trans ?_ | refine (at_put_ne (by (first | assumption | ((try simp only [NX]); omega)))).trans ?_ | refine (Ext.at (by assumption) (by (first | assumption | ((try simp only [NX]); omega)))).trans ?_)); ((try simp only [LL]); exact rfl); exact rfl; exact Nat.le_of_ble_eq_true rfl; exact rfl; ((try simp only [LL]); exact rfl))
    | ((with_reducible apply ev_build); exact rfl; exact rfl; exact rfl; ((simp only [ZCS]); exact rfl); ((try simp only [LL]); exact rfl))
    | ((with_reducible apply ev_fieldAddr); exact rfl; exact rfl; exact rfl; exact rfl; ((try simp only [NG]); exact rfl))
    | ((with_reducible apply ev_buildSlice); exact rfl; exact rfl; ((simp only [ZCS]); exact rfl); exact rfl; ((try simp only [LL]); exact rfl))
    | ((with_reducible apply ev_indexAddr); exact rfl; exact rfl; exact rfl; (first | exact Nat.le_of_ble_eq_true rfl | assumption | omega); ((try simp only [LL]); exact rfl))
    | ((with_reducible apply ev_extract); exact rfl)
    | ((with_reducible apply ev_field); exact rfl; exact rfl; exact rfl; exact rfl; exact rfl)
    | ((with_reducible apply ev_condT); exact rfl)
    | ((with_reducible apply ev_condF); exact rfl)
    | ((with_reducible apply ev_test); exact veq_refl _ _ rfl)
    | ((with_reducible apply ev_ko); exact rfl)); try simp only [NB]))
    refine ev_ko2 (at_no (by (first | assumption | ((try simp only [NX]); omega))) (by (repeat (first | exact at_put_same _ _ _ | exact at_new_same _ _ | assumption | refine (at_gap _ _ _).trans ?_ | refine (at_new_ne (by (first | assumption | ((try simp only [NX]); omega)))).trans ?_ | refine (at_put_ne (by (first | assumption | ((try simp only [NX]); omega)))).trans ?_ | refine (Ext.at (by assumption) (by (first | assumption | ((try simp only [NX]); omega)))).trans ?_)))) ?_
    rintro v H6 ⟨rfl, g6⟩
    have g6n := Upd.next g6; (try simp only [NX] at g6n)
    (repeat ((first
    | ((with_reducible apply ev_new); ((try simp only [LL]); exact rfl))
    | ((with_reducible apply ev_alloc); exact rfl; ((simp only [ZCS]); exact rfl))
    | ((with_reducible apply ev_load); exact rfl; exact rfl; (repeat (first | exact at_put_same _ _ _ | exact at_new_same _ _ | assumption | refine (at_gap _ _ _).trans ?_ | refine (at_new_ne (by (first | assumption | ((try simp only [NX]); omega)))).trans ?_ | refine (at_put_ne (by (first | assumption | ((try simp only [NX]); omega)))).trans ?_ | refine (Ext.at (by assumption) (by (first | assumption | ((try simp only [NX]); omega)))).trans ?_)); exact rfl)
    | ((with_reducible apply ev_loads); exact rfl; exact rfl; exact rfl; (repeat (first | exact at_put_same _ _ _ | exact at_new_same _ _ | assumption | refine (at_gap _ _ _).trans ?_ | refine (at_new_ne (by (first | assumption | ((try simp only [NX]); omega)))).trans ?_ | refine (at_put_ne (by (first | assumption | ((try simp only [NX]); omega)))).trans ?_ | refine (Ext.at (by assumption) (by (first | assumption | ((try simp only [NX]); omega)))).trans ?_)); exact Nat.le_of_ble_eq_true rfl; ((try simp only [LL]); exact rfl))
    | ((with_reducible apply ev_store); exact rfl; (repeat (first | exact at_put_same _ _ _ | exact at_new_same _ _ | assumption | refine (at_gap _ _ _).trans ?_ | refine (at_new_ne (by (first | assumption | ((try simp only [NX]); omega)))).trans ?_ | refine (at_put_ne (by (first | assumption | ((try simp only [NX]); omega)))).trans ?_ | refine (Ext.at (by assumption) (by (first | assumption | ((try simp only [NX]); omega)))).trans ?_)); ((try simp only [LL]); exact rfl); exact rfl; exact Nat.le_of_ble_eq_true rfl; exact rfl; ((try simp only [LL]); exact rfl))
    | ((with_reducible apply ev_build); exact rfl; exact rfl; exact rfl; ((simp only [ZCS]); exact rfl); ((try simp only [LL]); exact rfl))
    | ((with_reducible apply ev_fieldAddr); exact rfl; exact rfl; exact rfl; exact rfl; ((try simp only [NG]); exact rfl))
    | ((with_reducible apply ev_buildSlice); exact rfl; exact rfl; ((simp only [ZCS]); exact rfl); exact rfl; ((try simp only [LL]); exact rfl))
    | ((with_reducible apply ev_indexAddr); exact rfl; exact rfl; exact rfl; (first | exact Nat.le_of_ble_eq_true rfl | assumption | omega); ((try simp only [LL]); exact rfl))
    | ((with_reducible apply ev_extract); exact rfl)
    | ((with_reducible apply ev_field); exact rfl; exact rfl; exact rfl; exact rfl; exact rfl)
    | ((with_reducible apply ev_condT); exact rfl)
    | ((with_reducible apply ev_condF); exact rfl)
    | ((with_reducible apply ev_test); exact veq_refl _ _ rfl)
    | ((with_reducible apply ev_ko); exact rfl)); try simp only [NB]))
    refine ev_ko2 (look_no (hn.ext (by (repeat (first | exact Ext.refl _ | assumption | refine Upd.put ?_ _ (.inr (by first | exact Nat.le_refl _ | ((try simp only [NX]); omega))) | refine Upd.new ?_ _ | refine Upd.gap ?_ _ | refine Upd.trans ?_ (by assumption)))))) ?_
    rintro v H7 ⟨rfl, g7⟩
    have g7n := Upd.next g7; (try simp only [NX] at g7n)
    unfold zv77
    ((first
    | ((with_reducible apply ev_new); ((try simp only [LL]); exact rfl))
    | ((with_reducible apply ev_alloc); exact rfl; ((simp only [ZCS]); exact rfl))
    | ((with_reducible apply ev_load); exact rfl; exact rfl; (repeat (first | exact at_put_same _ _ _ | exact at_new_same _ _ | assumption | refine (at_gap _ _ _).trans ?_ | refine (at_new_ne (by (first | assumption | ((try simp only [NX]); omega)))).trans ?_ | refine (at_put_ne (by (first | assumption | ((try simp only [NX]); omega)))).trans ?_ | refine (Ext.at (by assumption) (by (first | assumption | ((try simp only [NX]); omega)))).trans ?_)); exact rfl)
    | ((with_reducible apply ev_loads); exact rfl; exact rfl; exact rfl; (repeat (first | exact at_put_same _ _ _ | exact at_new_same _ _ | assumption | refine (at_gap _ _ _).trans ?_ | refine (at_new_ne (by (first | assumption | ((try simp only [NX]); omega)))).trans ?_ | refine (at_put_ne (by (first | assumption | ((try simp only [NX]); omega)))).trans ?_ | refine (Ext.at (by assumption) (by (first | assumption | ((try simp only [NX]); omega)))).trans ?_)); exact Nat.le_of_ble_eq_true rfl; ((try simp only [LL]); exact rfl))
    | ((with_reducible apply ev_store); exact rfl; (repeat (first | exact at_put_same _ _ _ | exact at_new_same _ _ | assumption | refine (at_gap _ _ _).trans ?_ | refine (at_new_ne (by (first | assumption | ((try simp only [NX]); omega)))).trans ?_ | refine (at_put_ne (by (first | assumption | ((try simp only [NX]); omega)))).trans ?_ | refine (Ext.at (by assumption) (by (first | assumption | ((try simp only [NX]); omega)))).trans ?_)); ((try simp only [LL]); exact rfl); exact rfl; exact Nat.le_of_ble_eq_true rfl; exact rfl; ((try simp only [LL]); exact rfl))
    | ((with_reducible apply ev_build); exact rfl; exact rfl; exact rfl; ((simp only [ZCS]); exact rfl); ((try simp only [LL]); exact rfl))
    | ((with_reducible apply ev_fieldAddr); exact rfl; exact rfl; exact rfl; exact rfl; ((try simp only [NG]); exact rfl))
    | ((with_reducible apply ev_buildSlice); exact rfl; exact rfl; ((simp only [ZCS]); exact rfl); exact rfl; ((try simp only [LL]); exact rfl))
    | ((with_reducible apply ev_indexAddr); exact rfl; exact rfl; exact rfl; (first | exact Nat.le_of_ble_eq_true rfl | assumption | omega); ((try simp only [LL]); exact rfl))
    | ((with_reducible apply ev_extract); exact rfl)
    | ((with_reducible apply ev_field); exact rfl; exact rfl; exact rfl; exact rfl; exact rfl)
    | ((with_reducible apply ev_condT); exact rfl)
    | ((with_reducible apply ev_condF); exact rfl)
    | ((with_reducible apply ev_test); exact veq_refl _ _ rfl)
    | ((with_reducible apply ev_ko); exact rfl)); try simp only [NB])
    refine ev_ko kb77 ?_
    (repeat ((first
    | ((with_reducible apply ev_new); ((try simp only [LL]); exact rfl))
    | ((with_reducible apply ev_alloc); exact rfl; ((simp only [ZCS]); exact rfl))
    | ((with_reducible apply ev_load); exact rfl; exact rfl; (repeat (first | exact at_put_same _ _ _ | exact at_new_same _ _ | assumption | refine (at_gap _ _ _).trans ?_ | refine (at_new_ne (by (first | assumption | ((try simp only [NX]); omega)))).trans ?_ | refine (at_put_ne (by (first | assumption | ((try simp only [NX]); omega)))).trans ?_ | refine (Ext.at (by assumption) (by (first | assumption | ((try simp only [NX]); omega)))).trans ?_)); exact rfl)
    | ((with_reducible apply ev_loads); exact rfl; exact rfl; exact rfl; (repeat (first | exact at_put_same _ _ _ | exact at_new_same _ _ | assumption | refine (at_gap _ _ _).trans ?_ | refine (at_new_ne (by (first | assumption | ((try simp only [NX]); omega)))).trans ?_ | refine (at_put_ne (by (first | assumption | ((try simp only [NX]); omega)))).trans ?_ | refine (Ext.at (by assumption) (by (first | assumption | ((try simp only [NX]); omega)))).trans ?_)); exact Nat.le_of_ble_eq_true rfl; ((try simp only [LL]); exact rfl))
    | ((with_reducible apply ev_store); exact rfl; (repeat (first | exact at_put_same _ _ _ | exact at_new_same _ _ | assumption | refine (at_gap _ _ _).trans ?_ | refine (at_new_ne (by (first | assumption | ((try simp only [NX]); omega)))).trans ?_ | refine (at_put_ne (by (first | assumption | ((try simp only [NX]); omega)))).trans ?_ | refine (Ext.at (by assumption) (by (first | assumption | ((try simp only [NX]); omega)))).trans ?_)); ((try simp only [LL]); exact rfl); exact rfl; exact Nat.le_of_ble_eq_true rfl; exact rfl; ((try simp only [LL]); exact rfl))
    | ((with_reducible apply ev_build); exact rfl; exact rfl; exact rfl; ((simp only [ZCS]); exact rfl); ((try simp only [LL]); exact rfl))
    | ((with_reducible apply ev_fieldAddr); exact rfl; exact rfl; exact rfl; exact rfl; ((try simp only [NG]); exact rfl))
    | ((with_reducible apply ev_buildSlice); exact rfl; exact rfl; ((simp only [ZCS]); exact rfl); exact rfl; ((try simp only [LL]); exact rfl))
    | ((with_reducible apply ev_indexAddr); exact rfl; exact rfl; exact rfl; (first | exact Nat.le_of_ble_eq_true rfl | assumption | omega); ((try simp only [LL]); exact rfl))
    | ((with_reducible apply ev_extract); exact rfl)
    | ((with_reducible apply ev_field); exact rfl; exact rfl; exact rfl; exact rfl; exact rfl)
    | ((with_reducible apply ev_condT); exact rfl)
    | ((with_reducible apply ev_condF); exact rfl)
    | ((with_reducible apply ev_test); exact veq_refl _ _ rfl)
    | ((with_reducible apply ev_ko); exact rfl)); try simp only [NB]))
    refine ev_ret ⟨fun _ => ?_, fun h => absurd rfl h⟩
    refine ev_state fun s1 hT hD' hH => ?_
    have st1 : NoneSt s1.heap ic ir il iz k l p m c (r1 :: []) := by
      rw [hH]
      have e := st0.ext (H' := H7) (by (repeat (first | exact Ext.refl _ | assumption | refine Upd.put ?_ _ (.inr (by first | exact Nat.le_refl _ | ((try simp only [NX]); omega))) | refine Upd.new ?_ _ | refine Upd.gap ?_ _ | refine Upd.trans ?_ (by assumption))))
      refine ⟨e.c1, e.c2, e.r1, e.r2, e.l1, e.l2, e.z1, e.z2, List.nodup_cons.2 ⟨fun hm => absurd (st0.h2 _ hm).1 (by omega), st0.h1⟩, fun r hr => ?_⟩
      rcases List.mem_cons.1 hr with rfl | hr
      · exact ⟨by (first | assumption | ((try simp only [NX]); omega)), by (repeat (first | exact at_put_same _ _ _ | exact at_new_same _ _ | assumption | refine (at_gap _ _ _).trans ?_ | refine (at_new_ne (by (first | assumption | ((try simp only [NX]); omega)))).trans ?_ | refine (at_put_ne (by (first | assumption | ((try simp only [NX]); omega)))).trans ?_ | refine (Ext.at (by assumption) (by (first | assumption | ((try simp only [NX]); omega)))).trans ?_))⟩
      · exact e.h2 r hr
    have hD : s1.defers = _ := hD'.trans (m4.trans (congrArg _ hD))
    have f6 := lk_of_miss (t := 6) hT rfl q6; have f2 := lk_of_miss (t := 2) hT rfl q2; have f1 := lk_of_miss (t := 1) hT rfl q1; have f4 := lk_of_miss (t := 4) hT rfl q4
    have f7 : lk s1.tmps 7 = .int .i64 1 := lk_of_hit hT rfl
    clear hT hH hD'
    clear hn C1 C2 R1 R2 L1 L2 Z1 Z2 hk hv g1 g1n g2 g2n g3 g3n g5 g5n m1 m2 m3 m4 q8 q9 q10 q11 q6 q7 q2 q1 q4 g6 g6n g7 g7n st0

    refine ev_unroll ?_
    simp only [f6, f7, f2, f1, f4]
    have C1 := st1.c1; have C2 := st1.c2; have R1 := st1.r1; have R2 := st1.r2; have L1 := st1.l1; have L2 := st1.l2; have Z1 := st1.z1; have Z2 := st1.z2
    have hn : NoLog s1.heap (.pointer (some ⟨iz, 0, none⟩)) := .inr ⟨iz, rfl, Z1, Z2⟩
    (repeat ((first
    | ((with_reducible apply ev_new); ((try simp only [LL]); exact rfl))
    | ((with_reducible apply ev_alloc); exact rfl; ((simp only [ZCS]); exact rfl))
    | ((with_reducible apply ev_load); exact rfl; exact rfl; (repeat (first | exact at_put_same _ _ _ | exact at_new_same _ _ | assumption | refine (at_gap _ _ _).trans ?_ | refine (at_new_ne (by (first | assumption | ((try simp only [NX]); omega)))).trans ?_ | refine (at_put_ne (by (first | assumption | ((try simp only [NX]); omega)))).trans ?_ | refine (Ext.at (by assumption) (by (first | assumption | ((try simp only [NX]); omega)))).trans ?_)); exact rfl)
    | ((with_reducible apply ev_loads); exact rfl; exact rfl; exact rfl; (repeat (first | exact at_put_same _ _ _ | exact at_new_same _ _ | assumption | refine (at_gap _ _ _).trans ?_ | refine (at_new_ne (by (first | assumption | ((try simp only [NX]); omega)))).trans ?_ | refine (at_put_ne (by (first | assumption | ((try simp only [NX]); omega)))).trans ?_ | refine (Ext.at (by assumption) (by (first | assumption | ((try simp only [NX]); omega)))).trans ?_)); exact Nat.le_of_ble_eq_true rfl; ((try simp only [LL]); exact rfl))
    | ((with_reducible apply ev_store); exact rfl; (repeat (first | exact at_put_same _ _ _ | exact at_new_same _ _ | assumption | refine (at_gap _ _ _).trans ?_ | refine (at_new_ne (by (first | assumption | ((try simp only [NX]); omega)))).trans ?_ | refine (at_put_ne (by (first | assumption | ((try simp only [NX]); omega)))).trans ?_ | refine (Ext.at (by assumption) (by (first | assumption | ((try simp only [NX]); omega)))).trans ?_)); ((try simp only [LL]); exact rfl); exact rfl; exact Nat.le_of_ble_eq_true rfl; exact rfl; ((try simp only [LL]); exact rfl))
    | ((with_reducible apply ev_build); exact rfl; exact rfl; exact rfl; ((simp only [ZCS]); exact rfl); ((try simp only [LL]); exact rfl))
    | ((with_reducible apply ev_fieldAddr); exact rfl; exact rfl; exact rfl; exact rfl; ((try simp only [NG]); exact rfl))
    | ((with_reducible apply ev_buildSlice); exact rfl; exact rfl; ((simp only [ZCS]); exact rfl); exact rfl; ((try simp only [LL]); exact rfl))
    | ((with_reducible apply ev_indexAddr); exact rfl; exact rfl; exact rfl; (first | exact Nat.le_of_ble_eq_true rfl | assumption | omega); ((try simp only [LL]); exact rfl))
    | ((with_reducible apply ev_extract); exact rfl)
    | ((with_reducible apply ev_field); exact rfl; exact rfl; exact rfl; exact rfl; exact rfl)
    | ((with_reducible apply ev_condT); exact rfl)
    | ((with_reducible apply ev_condF); exact rfl)
    | ((with_reducible apply ev_test); exact veq_refl _ _ rfl)
    | ((with_reducible apply ev_ko); exact rfl)); try simp only [NB]))
    refine ev_ko2 (of_ok k l p m c hp) ?_
    rintro v H1 ⟨k', l', p', m', c', rfl, hk, hv, g1⟩
    have g1n := Upd.next g1; (try simp only [NX] at g1n)
    (repeat ((first
    | ((with_reducible apply ev_new); ((try simp only [LL]); exact rfl))
    | ((with_reducible apply ev_alloc); exact rfl; ((simp only [ZCS]); exact rfl))
    | ((with_reducible apply ev_load); exact rfl; exact rfl; (repeat (first | exact at_put_same _ _ _ | exact at_new_same _ _ | assumption | refine (at_gap _ _ _).trans ?_ | refine (at_new_ne (by (first | assumption | ((try simp only [NX]); omega)))).trans ?_ | refine (at_put_ne (by (first | assumption | ((try simp only [NX]); omega)))).trans ?_ | refine (Ext.at (by assumption) (by (first | assumption | ((try simp only [NX]); omega)))).trans ?_)); exact rfl)
    | ((with_reducible apply ev_loads); exact rfl; exact rfl; exact rfl; (repeat (first | exact at_put_same _ _ _ | exact at_new_same _ _ | assumption | refine (at_gap _ _ _).trans ?_ | refine (at_new_ne (by (first | assumption | ((try simp only [NX]); omega)))).trans ?_ | refine (at_put_ne (by (first | assumption | ((try simp only [NX]); omega)))).trans ?_ | refine (Ext.at (by assumption) (by (first | assumption | ((try simp only [NX]); omega)))).trans ?_)); exact Nat.le_of_ble_eq_true rfl; ((try simp only [LL]); exact rfl))
    | ((with_reducible apply ev_store); exact rfl; (repeat (first | exact at_put_same _ _ _ | exact at_new_same _ _ | assumption | refine (at_gap _ _ _).trans ?_ | refine (at_new_ne (by (first | assumption | ((try simp only [NX]); omega)))).trans ?_ | refine (at_put_ne (by (first | assumption | ((try simp only [NX]); omega)))).trans ?_ | refine (Ext.at (by assumption) (by (first | assumption | ((try simp only [NX]); omega)))).trans ?_)); ((try simp only [LL]); exact rfl); exact rfl; exact Nat.le_of_ble_eq_true rfl; exact rfl; ((try simp only [LL]); exact rfl))
    | ((with_reducible apply ev_build); exact rfl; exact rfl; exact rfl; ((simp only [ZCS]); exact rfl); ((try simp only [LL]); exact rfl))
    | ((with_reducible apply ev_fieldAddr); exact rfl; exact rfl; exact rfl; exact rfl; ((try simp only [NG]); exact rfl))
    | ((with_reducible apply ev_buildSlice); exact rfl; exact rfl; ((simp only [ZCS]); exact rfl); exact rfl; ((try simp only [LL]); exact rfl))
    | ((with_reducible apply ev_indexAddr); exact rfl; exact rfl; exact rfl; (first | exact Nat.le_of_ble_eq_true rfl | assumption | omega); ((try simp only [LL]); exact rfl))
    | ((with_reducible apply ev_extract); exact rfl)
    | ((with_reducible apply ev_field); exact rfl; exact rfl; exact rfl; exact rfl; exact rfl)
    | ((with_reducible apply ev_condT); exact rfl)
    | ((with_reducible apply ev_condF); exact rfl)
    | ((with_reducible apply ev_test); exact veq_refl _ _ rfl)
    | ((with_reducible apply ev_ko); exact rfl)); try simp only [NB]))
    refine ev_ko2 (do_no (hn.ext (by (repeat (first | exact Ext.refl _ | assumption | refine Upd.put ?_ _ (.inr (by first | exact Nat.le_refl _ | ((try simp only [NX]); omega))) | refine Upd.new ?_ _ | refine Upd.gap ?_ _ | refine Upd.trans ?_ (by assumption))))) _ _ _ _ _ hk) ?_
    rintro v H2 ⟨rfl, g2⟩
    have g2n := Upd.next g2; (try simp only [NX] at g2n)
    (repeat ((first
    | ((with_reducible apply ev_new); ((try simp only [LL]); exact rfl))
    | ((with_reducible apply ev_alloc); exact rfl; ((simp only [ZCS]); exact rfl))
    | ((with_reducible apply ev_load); exact rfl; exact rfl; (repeat (first | exact at_put_same _ _ _ | exact at_new_same _ _ | assumption | refine (at_gap _ _ _).trans ?_ | refine (at_new_ne (by (first | assumption | ((try simp only [NX]); omega)))).trans ?_ | refine (at_put_ne (by (first | assumption | ((try simp only [NX]); omega)))).trans ?_ | refine (Ext.at (by assumption) (by (first | assumption | ((try simp only [NX]); omega)))).trans ?_)); exact rfl)
    | ((with_reducible apply ev_loads); exact rfl; exact rfl; exact rfl; (repeat (first | exact at_put_same _ _ _ | exact at_new_same _ _ | assumption | refine (at_gap _ _ _).trans ?_ | refine (at_new_ne (by (first | assumption | ((try simp only [NX]); omega)))).trans ?_ | refine (at_put_ne (by (first | assumption | ((try simp only [NX]); omega)))).trans ?_ | refine (Ext.at (by assumption) (by (first | assumption | ((try simp only [NX]); omega)))).trans ?_)); exact Nat.le_of_ble_eq_true rfl; ((try simp only [LL]); exact rfl))
    | ((with_reducible apply ev_store); exact rfl; (repeat (first | exact at_put_same _ _ _ | exact at_new_same _ _ | assumption | refine (at_gap _ _ _).trans ?_ | refine (at_new_ne (by (first | assumption | ((try simp only [NX]); omega)))).trans ?_ | refine (at_put_ne (by (first | assumption | ((try simp only [NX]); omega)))).trans ?_ | refine (Ext.at (by assumption) (by (first | assumption | ((try simp only [NX]); omega)))).trans ?_)); ((try simp only [LL]); exact rfl); exact rfl; exact Nat.le_of_ble_eq_true rfl; exact rfl; ((try simp only [LL]); exact rfl))
    | ((with_reducible apply ev_build); exact rfl; exact rfl; exact rfl; ((simp only [ZCS]); exact rfl); ((try simp only [LL]); exact rfl))
    | ((with_reducible apply ev_fieldAddr); exact rfl; exact rfl; exact rfl; exact rfl; ((try simp only [NG]); exact rfl))
    | ((with_reducible apply ev_buildSlice); exact rfl; exact rfl; ((simp only [ZCS]); exact rfl); exact rfl; ((try simp only [LL]); exact rfl))
    | ((with_reducible apply ev_indexAddr); exact rfl; exact rfl; exact rfl; (first | exact Nat.le_of_ble_eq_true rfl | assumption | omega); ((try simp only [LL]); exact rfl))
    | ((with_reducible apply ev_extract); exact rfl)
    | ((with_reducible apply ev_field); exact rfl; exact rfl; exact rfl; exact rfl; exact rfl)
    | ((with_reducible apply ev_condT); exact rfl)
    | ((with_reducible apply ev_condF); exact rfl)
    | ((with_reducible apply ev_test); exact veq_refl _ _ rfl)
    | ((with_reducible apply ev_ko); exact rfl)); try simp only [NB]))
    refine ev_ko2 from_no ?_
    rintro v H3 ⟨rfl, rfl⟩
    (repeat ((first
    | ((with_reducible apply ev_new); ((try simp only [LL]); exact rfl))
    | ((with_reducible apply ev_alloc); exact rfl; ((simp only [ZCS]); exact rfl))
    | ((with_reducible apply ev_load); exact rfl; exact rfl; (repeat (first | exact at_put_same _ _ _ | exact at_new_same _ _ | assumption | refine (at_gap _ _ _).trans ?_ | refine (at_new_ne (by (first | assumption | ((try simp only [NX]); omega)))).trans ?_ | refine (at_put_ne (by (first | assumption | ((try simp only [NX]); omega)))).trans ?_ | refine (Ext.at (by assumption) (by (first | assumption | ((try simp only [NX]); omega)))).trans ?_)); exact rfl)
    | ((with_reducible apply ev_loads); exact rfl; exact rfl; exact rfl; (repeat (first | exact at_put_same _ _ _ | exact at_new_same _ _ | assumption | refine (at_gap _ _ _).trans ?_ | refine (at_new_ne (by (first | assumption | ((try simp only [NX]); omega)))).trans ?_ | refine (at_put_ne (by (first | assumption | ((try simp only [NX]); omega)))).trans ?_ | refine (Ext.at (by assumption) (by (first | assumption | ((try simp only [NX]); omega)))).trans ?_)); exact Nat.le_of_ble_eq_true rfl; ((try simp only [LL]); exact rfl))
    | ((with_reducible apply ev_store); exact rfl; (repeat (first | exact at_put_same _ _ _ | exact at_new_same _ _ | assumption | refine (at_gap _ _ _).trans ?_ | refine (at_new_ne (by (first | assumption | ((try simp only [NX]); omega)))).trans ?_ | refine (at_put_ne (by (first | assumption | ((try simp only [NX]); omega)))).trans ?_ | refine (Ext.at (by assumption) (by (first | assumption | ((try simp only [NX]); omega)))).trans ?_)); ((try simp only [LL]); exact rfl); exact rfl; exact Nat.le_of_ble_eq_true rfl; exact rfl; ((try simp only [LL]); exact rfl))
    | ((with_reducible apply ev_build); exact rfl; exact rfl; exact rfl; ((simp only [ZCS]); exact rfl); ((try simp only [LL]); exact rfl))
    | ((with_reducible apply ev_fieldAddr); exact rfl; exact rfl; exact rfl; exact rfl; ((try simp only [NG]); exact rfl))
    | ((with_reducible apply ev_buildSlice); exact rfl; exact rfl; ((simp only [ZCS]); exact rfl); exact rfl; ((try simp only [LL]); exact rfl))
    | ((with_reducible apply ev_indexAddr); exact rfl; exact rfl; exact rfl; (first | exact Nat.le_of_ble_eq_true rfl | assumption | omega); ((try simp only [LL]); exact rfl))
    | ((with_reducible apply ev_extract); exact rfl)
    | ((with_reducible apply ev_field); exact rfl; exact rfl; exact rfl; exact rfl; exact rfl)
    | ((with_reducible apply ev_condT); exact rfl)
    | ((with_reducible apply ev_condF); exact rfl)
    | ((with_reducible apply ev_test); exact veq_refl _ _ rfl)
    | ((with_reducible apply ev_ko); exact rfl)); try simp only [NB]))
    refine ev_ko2 all_no ?_
    rintro v H3 ⟨rfl, rfl⟩
    (repeat ((first
    | ((with_reducible apply ev_new); ((try simp only [LL]); exact rfl))
    | ((with_reducible apply ev_alloc); exact rfl; ((simp only [ZCS]); exact rfl))
    | ((with_reducible apply ev_load); exact rfl; exact rfl; (repeat (first | exact at_put_same _ _ _ | exact at_new_same _ _ | assumption | refine (at_gap _ _ _).trans ?_ | refine (at_new_ne (by (first | assumption | ((try simp only [NX]); omega)))).trans ?_ | refine (at_put_ne (by (first | assumption | ((try simp only [NX]); omega)))).trans ?_ | refine (Ext.at (by assumption) (by (first | assumption | ((try simp only [NX]); omega)))).trans ?_)); exact rfl)
    | ((with_reducible apply ev_loads); exact rfl; exact rfl; exact rfl; (repeat (first | exact at_put_same _ _ _ | exact at_new_same _ _ | assumption | refine (at_gap _ _ _).trans ?_ | refine (at_new_ne (by (first | assumption | ((try simp only [NX]); omega)))).trans ?_ | refine (at_put_ne (by (first | assumption | ((try simp only [NX]); omega)))).trans ?_ | refine (Ext.at (by assumption) (by (first | assumption | ((try simp only [NX]); omega)))).trans ?_)); exact Nat.le_of_ble_eq_true rfl; ((try simp only [LL]); exact rfl))
    | ((with_reducible apply ev_store); exact rfl; (repeat (first | exact at_put_same _ _ _ | exact at_new_same _ _ | assumption | refine (at_gap _ _ _).trans ?_ | refine (at_new_ne (by (first | assumption | ((try simp only [NX]); omega)))).trans ?_ | refine (at_put_ne (by (first | assumption | ((try simp only [NX]); omega)))).trans ?_ | refine (Ext.at (by assumption) (by (first | assumption | ((try simp only [NX]); omega)))).trans ?_)); ((try simp only [LL]); exact rfl); exact rfl; exact Nat.le_of_ble_eq_true rfl; exact rfl; ((try simp only [LL]); exact rfl))
    | ((with_reducible apply ev_build); exact rfl; exact rfl; exact rfl; ((simp only [ZCS]); exact rfl); ((try simp only [LL]); exact rfl))
    | ((with_reducible apply ev_fieldAddr); exact rfl; exact rfl; exact rfl; exact rfl; ((try simp only [NG]); exact rfl))
    | ((with_reducible apply ev_buildSlice); exact rfl; exact rfl; ((simp only [ZCS]); exact rfl); exact rfl; ((try simp only [LL]); exact rfl))
    | ((with_reducible apply ev_indexAddr); exact rfl; exact rfl; exact rfl; (first | exact Nat.le_of_ble_eq_true rfl | assumption | omega); ((try simp only [LL]); exact rfl))
    | ((with_reducible apply ev_extract); exact rfl)
    | ((with_reducible apply ev_field); exact rfl; exact rfl; exact rfl; exact rfl; exact rfl)
    | ((with_reducible apply ev_condT); exact rfl)
    | ((with_reducible apply ev_condF); exact rfl)
    | ((with_reducible apply ev_test); exact veq_refl _ _ rfl)
    | ((with_reducible apply ev_ko); exact rfl)); try simp only [NB]))
    refine ev_ko2 (next_no (hn.ext (by (repeat (first | exact Ext.refl _ | assumption | refine Upd.put ?_ _ (.inr (by first | exact Nat.le_refl _ | ((try simp only [NX]); omega))) | refine Upd.new ?_ _ | refine Upd.gap ?_ _ | refine Upd.trans ?_ (by assumption))))) (by (first | assumption | ((try simp only [NX]); omega))) (by (repeat (first | exact at_put_same _ _ _ | exact at_new_same _ _ | assumption | refine (at_gap _ _ _).trans ?_ | refine (at_new_ne (by (first | assumption | ((try simp only [NX]); omega)))).trans ?_ | refine (at_put_ne (by (first | assumption | ((try simp only [NX]); omega)))).trans ?_ | refine (Ext.at (by assumption) (by (first | assumption | ((try simp only [NX]); omega)))).trans ?_)))) ?_
    rintro v H3 ⟨rfl, g3⟩
    have g3n := Upd.next g3; (try simp only [NX] at g3n)
    (repeat ((first
    | ((with_reducible apply ev_new); ((try simp only [LL]); exact rfl))
    | ((with_reducible apply ev_alloc); exact rfl; ((simp only [ZCS]); exact rfl))
    | ((with_reducible apply ev_load); exact rfl; exact rfl; (repeat (first | exact at_put_same _ _ _ | exact at_new_same _ _ | assumption | refine (at_gap _ _ _).trans ?_ | refine (at_new_ne (by (first | assumption | ((try simp only [NX]); omega)))).trans ?_ | refine (at_put_ne (by (first | assumption | ((try simp only [NX]); omega)))).trans ?_ | refine (Ext.at (by assumption) (by (first | assumption | ((try simp only [NX]); omega)))).trans ?_)); exact rfl)
    | ((with_reducible apply ev_loads); exact rfl; exact rfl; exact rfl; (repeat (first | exact at_put_same _ _ _ | exact at_new_same _ _ | assumption | refine (at_gap _ _ _).trans ?_ | refine (at_new_ne (by (first | assumption | ((try simp only [NX]); omega)))).trans ?_ | refine (at_put_ne (by (first | assumption | ((try simp only [NX]); omega)))).trans ?_ | refine (Ext.at (by assumption) (by (first | assumption | ((try simp only [NX]); omega)))).trans ?_)); exact Nat.le_of_ble_eq_true rfl; ((try simp only [LL]); exact rfl))
    | ((with_reducible apply ev_store); exact rfl; (repeat (first | exact at_put_same _ _ _ | exact at_new_same _ _ | assumption | refine (at_gap _ _ _).trans ?_ | refine (at_new_ne (by (first | assumption | ((try simp only [NX]); omega)))).trans ?_ | refine (at_put_ne (by (first | assumption | ((try simp only [NX]); omega)))).trans ?_ | refine (Ext.at (by assumption) (by (first | assumption | ((try simp only [NX]); omega)))).trans ?_)); ((try simp only [LL]); exact rfl); exact rfl; exact Nat.le_of_ble_eq_true rfl; exact rfl; ((try simp only [LL]); exact rfl))
    | ((with_reducible apply ev_build); exact rfl; exact rfl; exact rfl; ((simp only [ZCS]); exact rfl); ((try simp only [LL]); exact rfl))
    | ((with_reducible apply ev_fieldAddr); exact rfl; exact rfl; exact rfl; exact rfl; ((try simp only [NG]); exact rfl))
    | ((with_reducible apply ev_buildSlice); exact rfl; exact rfl; ((simp only [ZCS]); exact rfl); exact rfl; ((try simp only [LL]); exact rfl))
    | ((with_reducible apply ev_indexAddr); exact rfl; exact rfl; exact rfl; (first | exact Nat.le_of_ble_eq_true rfl | assumption | omega); ((try simp only [LL]); exact rfl))
    | ((with_reducible apply ev_extract); exact rfl)
    | ((with_reducible apply ev_field); exact rfl; exact rfl; exact rfl; exact rfl; exact rfl)
    | ((with_reducible apply ev_condT); exact rfl)
    | ((with_reducible apply ev_condF); exact rfl)
    | ((with_reducible apply ev_test); exact veq_refl _ _ rfl)
    | ((with_reducible apply ev_ko); exact rfl)); try simp only [NB]))
    refine ev_ko2 all_no ?_
    rintro v H4 ⟨rfl, rfl⟩
    skip
    skip
    refine ev_range_ev (f := 42) (lk_hit rfl) rfl rfl (Ev.mono (over_no (hn.ext (by (repeat (first | exact Ext.refl _ | assumption | refine Upd.put ?_ _ (.inr (by first | exact Nat.le_refl _ | ((try simp only [NX]); omega))) | refine Upd.new ?_ _ | refine Upd.gap ?_ _ | refine Upd.trans ?_ (by assumption))))) (by (first | assumption | ((try simp only [NX]); omega))) (by (first | assumption | ((try simp only [NX]); omega))) (by (repeat (first | exact at_put_same _ _ _ | exact at_new_same _ _ | assumption | refine (at_gap _ _ _).trans ?_ | refine (at_new_ne (by (first | assumption | ((try simp only [NX]); omega)))).trans ?_ | refine (at_put_ne (by (first | assumption | ((try simp only [NX]); omega)))).trans ?_ | refine (Ext.at (by assumption) (by (first | assumption | ((try simp only [NX]); omega)))).trans ?_))) (by (repeat (first | exact at_put_same _ _ _ | exact at_new_same _ _ | assumption | refine (at_gap _ _ _).trans ?_ | refine (at_new_ne (by (first | assumption | ((try simp only [NX]); omega)))).trans ?_ | refine (at_put_ne (by (first | assumption | ((try simp only [NX]); omega)))).trans ?_ | refine (Ext.at (by assumption) (by (first | assumption | ((try simp only [NX]); omega)))).trans ?_)))) fun _ _ h => h.2) ?_
    intro s5 g5 n5 a5 t5 d5
    have g5n := Upd.next g5; (try simp only [NX] at g5n)
    obtain ⟨r2, m1, m2, m3, m4⟩ : ∃ r, s1.heap.next ≤ r ∧ r < s5.heap.next ∧ s5.heap.at r = some .held ∧ s5.defers = ⟨.collected r, #[]⟩ :: s1.defers := ⟨_, by (first | assumption | ((try simp only [NX]); omega)), n5, a5, d5⟩
    clear n5 a5 d5
    have q8 := lk_of_hit (t := 8) t5 rfl; have q9 := lk_of_hit (t := 9) t5 rfl; have q10 := lk_of_hit (t := 10) t5 rfl; have q11 := lk_of_hit (t := 11) t5 rfl
    have q6 := lk_of_miss (t := 6) t5 rfl f6; have q7 := lk_of_miss (t := 7) t5 rfl f7; have q2 := lk_of_miss (t := 2) t5 rfl f2; have q1 := lk_of_miss (t := 1) t5 rfl f1; have q4 := lk_of_miss (t := 4) t5 rfl f4
    clear t5
    refine ev_knormal ?_
    simp only [q8, q9, q10, q11, q6, q7, q1, q4]
    (repeat ((first
    | ((with_reducible apply ev_new); ((try simp only [LL]); exact rfl))
    | ((with_reducible apply ev_alloc); exact rfl; ((simp only [ZCS]); exact rfl))
    | ((with_reducible apply ev_load); exact rfl; exact rfl; (repeat (first | exact at_put_same _ _ _ | exact at_new_same _ _ | assumption | refine (at_gap _ _ _).trans ?_ | refine (at_new_ne (by (first | assumption | ((try simp only [NX]); omega)))).trans ?_ | refine (at_put_ne (by (first | assumption | ((try simp only [NX]); omega)))).trans ?_ | refine (Ext.at (by assumption) (by (first | assumption | ((try simp only [NX]); omega)))).trans ?_)); exact rfl)
    | ((with_reducible apply ev_loads); exact rfl; exact rfl; exact rfl; (repeat (first | exact at_put_same _ _ _ | exact at_new_same _ _ | assumption | refine (at_gap _ _ _).trans ?_ | refine (at_new_ne (by (first | assumption | ((try simp only [NX]); omega)))).trans ?_ | refine (at_put_ne (by (first | assumption | ((try simp only [NX]); omega)))).trans ?_ | refine (Ext.at (by assumption) (by (first | assumption | ((try simp only [NX]); omega)))).trans ?_)); exact Nat.le_of_ble_eq_true rfl; ((try simp only [LL]); exact rfl))
    | ((with_reducible apply ev_store); exact rfl; (repeat (first | exact at_put_same _ _ _ | exact at_new_same _ _ | assumption | refine (at_gap _ _ _).trans ?_ | refine (at_new_ne (by (first | assumption | ((try simp only [NX]); omega)))).trans ?_ | refine (at_put_ne (by (first | assumption | ((try simp only [NX]); omega)))).trans ?_ | refine (Ext.at (by assumption) (by (first | assumption | ((try simp only [NX]); omega)))).trans ?_)); ((try simp only [LL]); exact rfl); exact rfl; exact Nat.le_of_ble_eq_true rfl; exact rfl; ((try simp only [LL]); exact rfl))
    | ((with_reducible apply ev_build); exact rfl; exact rfl; exact rfl; ((simp only [ZCS]); exact rfl); ((try simp only [LL]); exact rfl))
    | ((with_reducible apply ev_fieldAddr); exact rfl; exact rfl; exact rfl; exact rfl; ((try simp only [NG]); exact rfl))
    | ((with_reducible apply ev_buildSlice); exact rfl; exact rfl; ((simp only [ZCS]); exact rfl); exact rfl; ((try simp only [LL]); exact rfl))
    | ((with_reducible apply ev_indexAddr); exact rfl; exact rfl; exact rfl; (first | exact Nat.le_of_ble_eq_true rfl | assumption | omega); ((try simp only [LL]); exact rfl))
    | ((with_reducible apply ev_extract); exact rfl)
    | ((with_reducible apply ev_field); exact rfl; exact rfl; exact rfl; exact rfl; exact rfl)
    | ((with_reducible apply ev_condT); exact rfl)
    | ((with_reducible apply ev_condF); exact rfl)
    | ((with_reducible apply ev_test); exact veq_refl _ _ rfl)
    | ((with_reducible apply ev_ko); exact rfl)); try simp only [NB]))
    refine ev_ko2 (at_no (by (first | assumption | ((try simp only [NX]); omega))) (by (repeat (first | exact at_put_same _ _ _ | exact at_new_same _ _ | assumption | refine (at_gap _ _ _).trans ?_ | refine (at_new_ne (by (first | assumption | ((try simp only [NX]); omega)))).trans ?_ | refine (at_put_ne (by (first | assumption | ((try simp only [NX]); omega)))).trans ?_ | refine (Ext.at (by assumption) (by (first | assumption | ((try simp only [NX]); omega)))).trans ?_)))) ?_
    rintro v H6 ⟨rfl, g6⟩
    have g6n := Upd.next g6; (try simp only [NX] at g6n)
    (repeat ((first
    | ((with_reducible apply ev_new); ((try simp only [LL]); exact rfl))
    | ((with_reducible apply ev_alloc); exact rfl; ((simp only [ZCS]); exact rfl))
    | ((with_reducible apply ev_load); exact rfl; exact rfl; (repeat (first | exact at_put_same _ _ _ | exact at_new_same _ _ | assumption | refine (at_gap _ _ _).trans ?_ | refine (at_new_ne (by (first | assumption | ((try simp only [NX]); omega)))).trans ?_ | refine (at_put_ne (by (first | assumption | ((try simp only [NX]); omega)))).trans ?_ | refine (Ext.at (by assumption) (by (first | assumption | ((try simp only [NX]); omega)))).trans ?_)); exact rfl)
    | ((with_reducible apply ev_loads); exact rfl; exact rfl; exact rfl; (repeat (first | exact at_put_same _ _ _ | exact at_new_same _ _ | assumption | refine (at_gap _ _ _).trans ?_ | refine (at_new_ne (by (first | assumption | ((try simp only [NX]); omega)))).trans ?_ | refine (at_put_ne (by (first | assumption | ((try simp only [NX]); omega)))).trans ?_ | refine (Ext.at (by assumption) (by (first | assumption | ((try simp only [NX]); omega)))).trans ?_)); exact Nat.le_of_ble_eq_true rfl; ((try simp only [LL]); exact rfl))
    | ((with_reducible apply ev_store); exact rfl; (repeat (first | exact at_put_same _ _ _ | exact at_new_same _ _ | assumption | refine (at_gap _ _ _).trans ?_ | refine (at_new_ne (by (first | assumption | ((try simp only [NX]); omega)))).trans ?_ | refine (at_put_ne (by (first | assumption | ((try simp only [NX]); omega)))).trans ?_ | refine (Ext.at (by assumption) (by (first | assumption | ((try simp only [NX]); omega)))).trans ?_)); ((try simp only [LL]); exact rfl); exact rfl; exact Nat.le_of_ble_eq_true rfl; exact rfl; ((try simp only [LL]); exact rfl))
    | ((with_reducible apply ev_build); exact rfl; exact rfl; exact rfl; ((simp only [ZCS]); exact rfl); ((try simp only [LL]); exact rfl))
    | ((with_reducible apply ev_fieldAddr); exact rfl; exact rfl; exact rfl; exact rfl; ((try simp only [NG]); exact rfl))
    | ((with_reducible apply ev_buildSlice); exact rfl; exact rfl; ((simp only [ZCS]); exact rfl); exact rfl; ((try simp only [LL]); exact rfl))
    | ((with_reducible apply ev_indexAddr); exact rfl; exact rfl; exact rfl; (first | exact Nat.le_of_ble_eq_true rfl | assumption | omega); ((try simp only [LL]); exact rfl))
    | ((with_reducible apply ev_extract); exact rfl)
    | ((with_reducible apply ev_field); exact rfl; exact rfl; exact rfl; exact rfl; exact rfl)
    | ((with_reducible apply ev_condT); exact rfl)
    | ((with_reducible apply ev_condF); exact rfl)
    | ((with_reducible apply ev_test); exact veq_refl _ _ rfl)
    | ((with_reducible apply ev_ko); exact rfl)); try simp only [NB]))
    refine ev_ko2 (look_no (hn.ext (by (repeat (first | exact Ext.refl _ | assumption | refine Upd.put ?_ _ (.inr (by first | exact Nat.le_refl _ | ((try simp only [NX]); omega))) | refine Upd.new ?_ _ | refine Upd.gap ?_ _ | refine Upd.trans ?_ (by assumption)))))) ?_
    rintro v H7 ⟨rfl, g7⟩
    have g7n := Upd.next g7; (try simp only [NX] at g7n)
    unfold zv77
    ((first
    | ((with_reducible apply ev_new); ((try simp only [LL]); exact rfl))
    | ((with_reducible apply ev_alloc); exact rfl; ((simp only [ZCS]); exact rfl))
    | ((with_reducible apply ev_load); exact rfl; exact rfl; (repeat (first | exact at_put_same _ _ _ | exact at_new_same _ _ | assumption | refine (at_gap _ _ _).trans ?_ | refine (at_new_ne (by (first | assumption | ((try simp only [NX]); omega)))).trans ?_ | refine (at_put_ne (by (first | assumption | ((try simp only [NX]); omega)))).trans ?_ | refine (Ext.at (by assumption) (by (first | assumption | ((try simp only [NX]); omega)))).trans ?_)); exact rfl)
    | ((with_reducible apply ev_loads); exact rfl; exact rfl; exact rfl; (repeat (first | exact at_put_same _ _ _ | exact at_new_same _ _ | assumption | refine (at_gap _ _ _).trans ?_ | refine (at_new_ne (by (first | assumption | ((try simp only [NX]); omega)))).trans ?_ | refine (at_put_ne (by (first | assumption | ((try simp only [NX]); omega)))).trans ?_ | refine (Ext.at (by assumption) (by (first | assumption | ((try simp only [NX]); omega)))).trans ?_)); exact Nat.le_of_ble_eq_true rfl; ((try simp only [LL]); exact rfl))
    | ((with_reducible apply ev_store); exact rfl; (repeat (first | exact at_put_same _ _ _ | exact at_new_same _ _ | assumption | refine (at_gap _ _ _).trans ?_ | refine (at_new_ne (by (first | assumption | ((try simp only [NX]); omega)))).trans ?_ | refine (at_put_ne (by (first | assumption | ((try simp only [NX]); omega)))).trans ?_ | refine (Ext.at (by assumption) (by (first | assumption | ((try simp only [NX]); omega)))).trans ?_)); ((try simp only [LL]); exact rfl); exact rfl; exact Nat.le_of_ble_eq_true rfl; exact rfl; ((try simp only [LL]); exact rfl))
    | ((with_reducible apply ev_build); exact rfl; exact rfl; exact rfl; ((simp only [ZCS]); exact rfl); ((try simp only [LL]); exact rfl))
    | ((with_reducible apply ev_fieldAddr); exact rfl; exact rfl; exact rfl; exact rfl; ((try simp only [NG]); exact rfl))
    | ((with_reducible apply ev_buildSlice); exact rfl; exact rfl; ((simp only [ZCS]); exact rfl); exact rfl; ((try simp only [LL]); exact rfl))
    | ((with_reducible apply ev_indexAddr); exact rfl; exact rfl; exact rfl; (first | exact Nat.le_of_ble_eq_true rfl | assumption | omega); ((try simp only [LL]); exact rfl))
    | ((with_reducible apply ev_extract); exact rfl)
    | ((with_reducible apply ev_field); exact rfl; exact rfl; exact rfl; exact rfl; exact rfl)
    | ((with_reducible apply ev_condT); exact rfl)
    | ((with_reducible apply ev_condF); exact rfl)
    | ((with_reducible apply ev_test); exact veq_refl _ _ rfl)
    | ((with_reducible apply ev_ko); exact rfl)); try simp only [NB])
    refine ev_ko kb77 ?_
    (repeat ((first
    | ((with_reducible apply ev_new); ((try simp only [LL]); exact rfl))
    | ((with_reducible apply ev_alloc); exact rfl; ((simp only [ZCS]); exact rfl))
    | ((with_reducible apply ev_load); exact rfl; exact rfl; (repeat (first | exact at_put_same _ _ _ | exact at_new_same _ _ | assumption | refine (at_gap _ _ _).trans ?_ | refine (at_new_ne (by (first | assumption | ((try simp only [NX]); omega)))).trans ?_ | refine (at_put_ne (by (first | assumption | ((try simp only [NX]); omega)))).trans ?_ | refine (Ext.at (by assumption) (by (first | assumption | ((try simp only [NX]); omega)))).trans ?_)); exact rfl)
    | ((with_reducible apply ev_loads); exact rfl; exact rfl; exact rfl; (repeat (first | exact at_put_same _ _ _ | exact at_new_same _ _ | assumption | refine (at_gap _ _ _).trans ?_ | refine (at_new_ne (by (first | assumption | ((try simp only [NX]); omega)))).trans ?_ | refine (at_put_ne (by (first | assumption | ((try simp only [NX]); omega)))).trans ?_ | refine (Ext.at (by assumption) (by (first | assumption | ((try simp only [NX]); omega)))).trans ?_)); exact Nat.le_of_ble_eq_true rfl; ((try simp only [LL]); exact rfl))
    | ((with_reducible apply ev_store); exact rfl; (repeat (first | exact at_put_same _ _ _ | exact at_new_same _ _ | assumption | refine (at_gap _ _ _).trans ?_ | refine (at_new_ne (by (first | assumption | ((try simp only [NX]); omega)))).trans ?_ | refine (at_put_ne (by (first | assumption | ((try simp only [NX]); omega)))).trans ?_ | refine (Ext.at (by assumption) (by (first | assumption | ((try simp only [NX]); omega)))).trans ?_)); ((try simp only [LL]); exact rfl); exact rfl; exact Nat.le_of_ble_eq_true rfl; exact rfl; ((try simp only [LL]); exact rfl))
    | ((with_reducible apply ev_build); exact rfl; exact rfl; exact rfl; ((simp only [ZCS]); exact rfl); ((try simp only [LL]); exact rfl))
    | ((with_reducible apply ev_fieldAddr); exact rfl; exact rfl; exact rfl; exact rfl; ((try simp only [NG]); exact rfl))
    | ((with_reducible apply ev_buildSlice); exact rfl; exact rfl; ((simp only [ZCS]); exact rfl); exact rfl; ((try simp only [LL]); exact rfl))
    | ((with_reducible apply ev_indexAddr); exact rfl; exact rfl; exact rfl; (first | exact Nat.le_of_ble_eq_true rfl | assumption | omega); ((try simp only [LL]); exact rfl))
    | ((with_reducible apply ev_extract); exact rfl)
    | ((with_reducible apply ev_field); exact rfl; exact rfl; exact rfl; exact rfl; exact rfl)
    | ((with_reducible apply ev_condT); exact rfl)
    | ((with_reducible apply ev_condF); exact rfl)
    | ((with_reducible apply ev_test); exact veq_refl _ _ rfl)
    | ((with_reducible apply ev_ko); exact rfl)); try simp only [NB]))
    refine ev_ret ⟨fun _ => ?_, fun h => absurd rfl h⟩
    refine ev_state fun s2 hT hD' hH => ?_
    have st2 : NoneSt s2.heap ic ir il iz k l p m c (r2 :: [r1]) := by
      rw [hH]
      have e := st1.ext (H' := H7) (by (repeat (first | exact Ext.refl _ | assumption | refine Upd.put ?_ _ (.inr (by first | exact Nat.le_refl _ | ((try simp only [NX]); omega))) | refine Upd.new ?_ _ | refine Upd.gap ?_ _ | refine Upd.trans ?_ (by assumption))))
      refine ⟨e.c1, e.c2, e.r1, e.r2, e.l1, e.l2, e.z1, e.z2, List.nodup_cons.2 ⟨fun hm => absurd (st1.h2 _ hm).1 (by omega), st1.h1⟩, fun r hr => ?_⟩
      rcases List.mem_cons.1 hr with rfl | hr
      · exact ⟨by (first | assumption | ((try simp only [NX]); omega)), by (repeat (first | exact at_put_same _ _ _ | exact at_new_same _ _ | assumption | refine (at_gap _ _ _).trans ?_ | refine (at_new_ne (by (first | assumption | ((try simp only [NX]); omega)))).trans ?_ | refine (at_put_ne (by (first | assumption | ((try simp only [NX]); omega)))).trans ?_ | refine (Ext.at (by assumption) (by (first | assumption | ((try simp only [NX]); omega)))).trans ?_))⟩
      · exact e.h2 r hr
    have hD : s2.defers = _ := hD'.trans (m4.trans (congrArg _ hD))
    have f6 := lk_of_miss (t := 6) hT rfl q6; have f2 := lk_of_miss (t := 2) hT rfl q2; have f1 := lk_of_miss (t := 1) hT rfl q1; have f4 := lk_of_miss (t := 4) hT rfl q4
    have f7 : lk s2.tmps 7 = .int .i64 2 := lk_of_hit hT rfl
    clear hT hH hD'
    clear hn C1 C2 R1 R2 L1 L2 Z1 Z2 hk hv g1 g1n g2 g2n g3 g3n g5 g5n m1 m2 m3 m4 q8 q9 q10 q11 q6 q7 q2 q1 q4 g6 g6n g7 g7n st1
    refine ev_unroll ?_
    simp only [f6, f7]
    (repeat ((first
    | ((with_reducible apply ev_new); ((try simp only [LL]); exact rfl))
    | ((with_reducible apply ev_alloc); exact rfl; ((simp only [ZCS]); exact rfl))
    | ((with_reducible apply ev_load); exact rfl; exact rfl; (repeat (first | exact at_put_same _ _ _ | exact at_new_same _ _ | assumption | refine (at_gap _ _ _).trans ?_ | refine (at_new_ne (by (first | assumption | ((try simp only [NX]); omega)))).trans ?_ | refine (at_put_ne (by (first | assumption | ((try simp only [NX]); omega)))).trans ?_ | refine (Ext.at (by assumption) (by (first | assumption | ((try simp only [NX]); omega)))).trans ?_)); exact rfl)
    | ((with_reducible apply ev_loads); exact rfl; exact rfl; exact rfl; (repeat (first | exact at_put_same _ _ _ | exact at_new_same _ _ | assumption | refine (at_gap _ _ _).trans ?_ | refine (at_new_ne (by (first | assumption | ((try simp only [NX]); omega)))).trans ?_ | refine (at_put_ne (by (first | assumption | ((try simp only [NX]); omega)))).trans ?_ | refine (Ext.at (by assumption) (by (first | assumption | ((try simp only [NX]); omega)))).trans ?_)); exact Nat.le_of_ble_eq_true rfl; ((try simp only [LL]); exact rfl))
    | ((with_reducible apply ev_store); exact rfl; (repeat (first | exact at_put_same _ _ _ | exact at_new_same _ _ | assumption | refine (at_gap _ _ _).trans ?_ | refine (at_new_ne (by (first | assumption | ((try simp only [NX]); omega)))).trans ?_ | refine (at_put_ne (by (first | assumption | ((try simp only [NX]); omega)))).trans ?_ | refine (Ext.at (by assumption) (by (first | assumption | ((try simp only [NX]); omega)))).trans ?_)); ((try simp only [LL]); exact rfl); exact rfl; exact Nat.le_of_ble_eq_true rfl; exact rfl; ((try simp only [LL]); exact rfl))
    | ((with_reducible apply ev_build); exact rfl; exact rfl; exact rfl; ((simp only [ZCS]); exact rfl); ((try simp only [LL]); exact rfl))
    | ((with_reducible apply ev_fieldAddr); exact rfl; exact rfl; exact rfl; exact rfl; ((try simp only [NG]); exact rfl))
    | ((with_reducible apply ev_buildSlice); exact rfl; exact rfl; ((simp only [ZCS]); exact rfl); exact rfl; ((try simp only [LL]); exact rfl))
    | ((with_reducible apply ev_indexAddr); exact rfl; exact rfl; exact rfl; (first | exact Nat.le_of_ble_eq_true rfl | assumption | omega); ((try simp only [LL]); exact rfl))
    | ((with_reducible apply ev_extract); exact rfl)
    | ((with_reducible apply ev_field); exact rfl; exact rfl; exact rfl; exact rfl; exact rfl)
    | ((with_reducible apply ev_condT); exact rfl)
    | ((with_reducible apply ev_condF); exact rfl)
    | ((with_reducible apply ev_test); exact veq_refl _ _ rfl)
    | ((with_reducible apply ev_ko); exact rfl)); try simp only [NB]))
    exact ev_ret ⟨(fun h => by cases h), fun _ => ⟨rfl, ic, ir, il, iz, [r2, r1], (lk_miss rfl).trans f1, (lk_miss rfl).trans f4, hD, st2⟩⟩
  · rintro e s ⟨rfl, ic, ir, il, iz, rs, f1, f4, hD, st⟩
    refine ev_exit_hit ?_
    simp only [f1, f4, hD]
    refine ev_ko2 (stand_none _ _ _) ?_
    rintro v H1 ⟨rfl, rfl⟩
    refine ev_ko2 (next_none _ _) ?_
    rintro v H1 ⟨rfl, g1⟩
    have g1n := Upd.next g1; (try simp only [NX] at g1n)
    have R1 := st.r1; have R2 := st.r2
    (repeat ((first
    | ((with_reducible apply ev_new); ((try simp only [LL]); exact rfl))
    | ((with_reducible apply ev_alloc); exact rfl; ((simp only [ZCS]); exact rfl))
    | ((with_reducible apply ev_load); exact rfl; exact rfl; (repeat (first | exact at_put_same _ _ _ | exact at_new_same _ _ | assumption | refine (at_gap _ _ _).trans ?_ | refine (at_new_ne (by (first | assumption | ((try simp only [NX]); omega)))).trans ?_ | refine (at_put_ne (by (first | assumption | ((try simp only [NX]); omega)))).trans ?_ | refine (Ext.at (by assumption) (by (first | assumption | ((try simp only [NX]); omega)))).trans ?_)); exact rfl)
    | ((with_reducible apply ev_loads); exact rfl; exact rfl; exact rfl; (repeat (first | exact at_put_same _ _ _ | exact at_new_same _ _ | assumption | refine (at_gap _ _ _).trans ?_ | refine (at_new_ne (by (first | assumption | ((try simp only [NX]); omega)))).trans ?_ | refine (at_put_ne (by (first | assumption | ((try simp only [NX]); omega)))).trans ?_ | refine (Ext.at (by assumption) (by (first | assumption | ((try simp only [NX]); omega)))).trans ?_)); exact Nat.le_of_ble_eq_true rfl; ((try simp only [LL]); exact rfl))
    | ((with_reducible apply ev_store); exact rfl; (repeat (first | exact at_put_same _ _ _ | exact at_new_same _ _ | assumption | refine (at_gap _ _ _).trans ?_ | refine (at_new_ne (by (first | assumption | ((try simp only [NX]); omega)))).trans ?_ | refine (at_put_ne (by (first | assumption | ((try simp only [NX]); omega)))).trans ?_ | refine (Ext.at (by assumption) (by (first | assumption | ((try simp only [NX]); omega)))).trans ?_)); ((try simp only [LL]); exact rfl); exact rfl; exact Nat.le_of_ble_eq_true rfl; exact rfl; ((try simp only [LL]); exact rfl))
    | ((with_reducible apply ev_build); exact rfl; exact rfl; exact rfl; ((simp only [ZCS]); exact rfl); ((try simp only [LL]); exact rfl))
    | ((with_reducible apply ev_fieldAddr); exact rfl; exact rfl; exact rfl; exact rfl; ((try simp only [NG]); exact rfl))
    | ((with_reducible apply ev_buildSlice); exact rfl; exact rfl; ((simp only [ZCS]); exact rfl); exact rfl; ((try simp only [LL]); exact rfl))
    | ((with_reducible apply ev_indexAddr); exact rfl; exact rfl; exact rfl; (first | exact Nat.le_of_ble_eq_true rfl | assumption | omega); ((try simp only [LL]); exact rfl))
    | ((with_reducible apply ev_extract); exact rfl)
    | ((with_reducible apply ev_field); exact rfl; exact rfl; exact rfl; exact rfl; exact rfl)
    | ((with_reducible apply ev_condT); exact rfl)
    | ((with_reducible apply ev_condF); exact rfl)
    | ((with_reducible apply ev_test); exact veq_refl _ _ rfl)
    | ((with_reducible apply ev_ko); exact rfl)); try simp only [NB]))
    refine ev_ko2 (at_none _ _) ?_
    rintro v H2 ⟨rfl, rfl⟩
    (repeat ((first
    | ((with_reducible apply ev_new); ((try simp only [LL]); exact rfl))
    | ((with_reducible apply ev_alloc); exact rfl; ((simp only [ZCS]); exact rfl))
    | ((with_reducible apply ev_load); exact rfl; exact rfl; (repeat (first | exact at_put_same _ _ _ | exact at_new_same _ _ | assumption | refine (at_gap _ _ _).trans ?_ | refine (at_new_ne (by (first | assumption | ((try simp only [NX]); omega)))).trans ?_ | refine (at_put_ne (by (first | assumption | ((try simp only [NX]); omega)))).trans ?_ | refine (Ext.at (by assumption) (by (first | assumption | ((try simp only [NX]); omega)))).trans ?_)); exact rfl)
    | ((with_reducible apply ev_loads); exact rfl; exact rfl; exact rfl; (repeat (first | exact at_put_same _ _ _ | exact at_new_same _ _ | assumption | refine (at_gap _ _ _).trans ?_ | refine (at_new_ne (by (first | assumption | ((try simp only [NX]); omega)))).trans ?_ | refine (at_put_ne (by (first | assumption | ((try simp only [NX]); omega)))).trans ?_ | refine (Ext.at (by assumption) (by (first | assumption | ((try simp only [NX]); omega)))).trans ?_)); exact Nat.le_of_ble_eq_true rfl; ((try simp only [LL]); exact rfl))
    | ((with_reducible apply ev_store); exact rfl; (repeat (first | exact at_put_same _ _ _ | exact at_new_same _ _ | assumption | refine (at_gap _ _ _).trans ?_ | refine (at_new_ne (by (first | assumption | ((try simp only [NX]); omega)))).trans ?_ | refine (at_put_ne (by (first | assumption | ((try simp only [NX]); omega)))).trans ?_ | refine (Ext.at (by assumption) (by (first | assumption | ((try simp only [NX]); omega)))).trans ?_)); ((try simp only [LL]); exact rfl); exact rfl; exact Nat.le_of_ble_eq_true rfl; exact rfl; ((try simp only [LL]); exact rfl))
    | ((with_reducible apply ev_build); exact rfl; exact rfl; exact rfl; ((simp only [ZCS]); exact rfl); ((try simp only [LL]); exact rfl))
    | ((with_reducible apply ev_fieldAddr); exact rfl; exact rfl; exact rfl; exact rfl; ((try simp only [NG]); exact rfl))
    | ((with_reducible apply ev_buildSlice); exact rfl; exact rfl; ((simp only [ZCS]); exact rfl); exact rfl; ((try simp only [LL]); exact rfl))
    | ((with_reducible apply ev_indexAddr); exact rfl; exact rfl; exact rfl; (first | exact Nat.le_of_ble_eq_true rfl | assumption | omega); ((try simp only [LL]); exact rfl))
    | ((with_reducible apply ev_extract); exact rfl)
    | ((with_reducible apply ev_field); exact rfl; exact rfl; exact rfl; exact rfl; exact rfl)
    | ((with_reducible apply ev_condT); exact rfl)
    | ((with_reducible apply ev_condF); exact rfl)
    | ((with_reducible apply ev_test); exact veq_refl _ _ rfl)
    | ((with_reducible apply ev_ko); exact rfl)); try simp only [NB]))
    refine ev_helds rs _ st.h1 (fun r hr => ?_) fun H3 h3 n3 => ?_
    · have Z1 := (st.h2 r hr).1
      have Z2 := (st.h2 r hr).2
      have hne : r ≠ ir := fun e => by rw [e, R2] at Z2; cases Z2
      (repeat (first | exact at_put_same _ _ _ | exact at_new_same _ _ | assumption | refine (at_gap _ _ _).trans ?_ | refine (at_new_ne (by (first | assumption | ((try simp only [NX]); omega)))).trans ?_ | refine (at_put_ne (by (first | assumption | ((try simp only [NX]); omega)))).trans ?_ | refine (Ext.at (by assumption) (by (first | assumption | ((try simp only [NX]); omega)))).trans ?_))
    have hi : H3.at ir = _ := (h3 ir fun hm => by have := (st.h2 ir hm).2; rw [R2] at this; cases this).trans (at_put_same _ _ _)
    (repeat ((first
    | ((with_reducible apply ev_new); ((try simp only [LL]); exact rfl))
    | ((with_reducible apply ev_alloc); exact rfl; ((simp only [ZCS]); exact rfl))
    | ((with_reducible apply ev_load); exact rfl; exact rfl; (repeat (first | exact at_put_same _ _ _ | exact at_new_same _ _ | assumption | refine (at_gap _ _ _).trans ?_ | refine (at_new_ne (by (first | assumption | ((try simp only [NX]); omega)))).trans ?_ | refine (at_put_ne (by (first | assumption | ((try simp only [NX]); omega)))).trans ?_ | refine (Ext.at (by assumption) (by (first | assumption | ((try simp only [NX]); omega)))).trans ?_)); exact rfl)
    | ((with_reducible apply ev_loads); exact rfl; exact rfl; exact rfl; (repeat (first | exact at_put_same _ _ _ | exact at_new_same _ _ | assumption | refine (at_gap _ _ _).trans ?_ | refine (at_new_ne (by (first | assumption | ((try simp only [NX]); omega)))).trans ?_ | refine (at_put_ne (by (first | assumption | ((try simp only [NX]); omega)))).trans ?_ | refine (Ext.at (by assumption) (by (first | assumption | ((try simp only [NX]); omega)))).trans ?_)); exact Nat.le_of_ble_eq_true rfl; ((try simp only [LL]); exact rfl))
    | ((with_reducible apply ev_store); exact rfl; (repeat (first | exact at_put_same _ _ _ | exact at_new_same _ _ | assumption | refine (at_gap _ _ _).trans ?_ | refine (at_new_ne (by (first | assumption | ((try simp only [NX]); omega)))).trans ?_ | refine (at_put_ne (by (first | assumption | ((try simp only [NX]); omega)))).trans ?_ | refine (Ext.at (by assumption) (by (first | assumption | ((try simp only [NX]); omega)))).trans ?_)); ((try simp only [LL]); exact rfl); exact rfl; exact Nat.le_of_ble_eq_true rfl; exact rfl; ((try simp only [LL]); exact rfl))
    | ((with_reducible apply ev_build); exact rfl; exact rfl; exact rfl; ((simp only [ZCS]); exact rfl); ((try simp only [LL]); exact rfl))
    | ((with_reducible apply ev_fieldAddr); exact rfl; exact rfl; exact rfl; exact rfl; ((try simp only [NG]); exact rfl))
    | ((with_reducible apply ev_buildSlice); exact rfl; exact rfl; ((simp only [ZCS]); exact rfl); exact rfl; ((try simp only [LL]); exact rfl))
    | ((with_reducible apply ev_indexAddr); exact rfl; exact rfl; exact rfl; (first | exact Nat.le_of_ble_eq_true rfl | assumption | omega); ((try simp only [LL]); exact rfl))
    | ((with_reducible apply ev_extract); exact rfl)
    | ((with_reducible apply ev_field); exact rfl; exact rfl; exact rfl; exact rfl; exact rfl)
    | ((with_reducible apply ev_condT); exact rfl)
    | ((with_reducible apply ev_condF); exact rfl)
    | ((with_reducible apply ev_test); exact veq_refl _ _ rfl)
    | ((with_reducible apply ev_ko); exact rfl)); try simp only [NB]))
    exact ev_ret rfl
end Go.Proofs.YtiedaccgagnofaaGreat
