/- Locks; cursors on a log that is none, or a zero one. -/
import Derived.Test.YtiedaccgagnofaaGreatNb
import Derived.Test.YtiedaccgagnofaaGreatKf
namespace Go.Proofs.YtiedaccgagnofaaGreat
open Go.RowKit
set_option maxRecDepth 1000000

theorem turn_run {old new : Int} {H : LH} {i off s : Nat} {c c' : List Value} {e : TypeId} (h : H.at i = some (.cells c e s)) (h0 : c[off]? = some (.int .i32 old)) (hc : splice c off [.int .i32 new] = c') :
    turnS old new [.pointer (some ⟨i, off, none⟩)] H = some (.tuple #[], H.put i (some (.cells c' e s))) := by
  unfold turnS
  have : Nat.blt 0 1 = true := rfl
  simp only [h, this, h0, decide_true, hc]
theorem lock_ok {n : Nat} {H : LH} {i off s : Nat} {c c' : List Value} {e : TypeId} (h : H.at i = some (.cells c e s)) (h0 : c[off]? = some (.int .i32 0)) (hc : splice c off [.int .i32 1] = c') :
    Ev (lcall CT (n + 2) 37 [.pointer (some ⟨i, off, none⟩)] H) fun v H' => v = .tuple #[] ∧ H' = H.put i (some (.cells c' e s)) := by
  refine ev_l (fun _ => L37) ?_
  unfold R37
  (repeat ((first
    | ((with_reducible apply ev_new); ((try simp only [LL]); exact rfl))
    | ((with_reducible apply ev_alloc); exact rfl; ((simp only [ZCS]); exact rfl))
    | ((with_reducible apply ev_load); exact rfl; exact rfl; (repeat (first | exact at_put_same _ _ _ | exact at_new_same _ _ | assumption | refine (at_gap _ _ _).trans ?_ | refine (at_new_ne (by (first | assumption | ((try simp only [NX]); omega)))).trans ?_ | refine (at_put_ne (by (first | assumption | ((try simp only [NX]); omega)))).trans ?_ | refine (Ext.at (by assumption) (by (first | assumption | ((try simp only [NX]); omega)))).trans ?_)); exact rfl)
    | ((with_reducible apply ev_loads); exact rfl; exact rfl; exact rfl; (repeat (first | exact at_put_same _ _ _ | exact at_new_same _ _ | assumption | refine (at_gap _ _ _).trans ?_ | refine (at_new_ne (by (first | assumption | ((try simp only [NX]); omega)))).trans ?_ | refine (at_put_ne (by (first | assumption | ((try simp only [NX]); omega)))).trans ?_ | refine (Ext.at (by assumption) (by (first | assumption | ((try simp only [NX]); omega)))).trans ?_)); exact Nat.le_of_ble_eq_true rfl; ((try simp only [LL]); exact rfl))
    | ((with_reducible apply ev_store); exact rfl; (repeat (first | exact at_put_same _ _ _ | exact at_new_same _ _ | assumption | refine (at_gap _ _ _).trans ?_ | refine (at_new_ne (by (first | assumption | ((try simp only [NX]); omega)))).trans ?_ | refine (at_put_ne (by (first | assumption | ((try simp only [NX]); omega)))).trans ?_ | refine (Ext.at (by assumption) (by (first | assumption | ((try simp only [NX]); omega)))).trans ?_)); ((try simp only [LL]); exact rfl); exact rfl; exact Nat.le_of_ble_eq_true rfl; exact rfl; ((try simp only [LL]); exact rfl))
    | ((with_reducible apply ev_build); exact rfl; exact rfl; exact rfl; ((simp only [ZCS]); exact rfl); ((try simp only [LL]); exact rfl))
    | ((with_reducible apply ev_fieldAddr); exact rfl; exact rfl; exact rfl; exact rfl; ((try simp only [NG]); exact rfl))
    | ((with_reducible apply ev_buildSlice); exact rfl; exact rfl; ((simp only [ZCS]); exact rfl); exact rfl; ((try simp only [LL]); exact rfl))
    | ((with_reducible apply ev_indexAddr); exact rfl; exact rfl; exact rfl; (first | exact Nat.le_of_ble_eq_true rfl | assumption | omega); ((try simp only [LL]); exact rfl))
    | ((with_reducible apply ev_extract); exact rfl)
    | ((with_reducible apply ev_field); exact rfl; exact rfl; exact rfl; exact rfl; exact rfl)
    | ((with_reducible apply ev_condT); exact rfl)
    | ((with_reducible apply ev_condF); exact rfl)
    | ((with_reducible apply ev_test); exact veq_refl _ _ rfl)
    | ((with_reducible apply ev_ko); exact rfl)); try simp only [NB]))
  refine ev_ko2' ((lcall_spec (C := CT) (f := 61) rfl).trans (turn_run h h0 hc)) ?_
  exact ev_ret ⟨rfl, rfl⟩
theorem unlock_ok {n : Nat} {H : LH} {i off s : Nat} {c c' : List Value} {e : TypeId} (h : H.at i = some (.cells c e s)) (h0 : c[off]? = some (.int .i32 1)) (hc : splice c off [.int .i32 0] = c') :
    EvD (ldcall CT (n + 2) 38 [.pointer (some ⟨i, off, none⟩)] H) fun H' => H' = H.put i (some (.cells c' e s)) := by
  refine evd_l (fun _ => LD38) ?_
  unfold RD38
  (repeat ((first
    | ((with_reducible apply ev_new); ((try simp only [LL]); exact rfl))
    | ((with_reducible apply ev_alloc); exact rfl; ((simp only [ZCS]); exact rfl))
    | ((with_reducible apply ev_load); exact rfl; exact rfl; (repeat (first | exact at_put_same _ _ _ | exact at_new_same _ _ | assumption | refine (at_gap _ _ _).trans ?_ | refine (at_new_ne (by (first | assumption | ((try simp only [NX]); omega)))).trans ?_ | refine (at_put_ne (by (first | assumption | ((try simp only [NX]); omega)))).trans ?_ | refine (Ext.at (by assumption) (by (first | assumption | ((try simp only [NX]); omega)))).trans ?_)); exact rfl)
    | ((with_reducible apply ev_loads); exact rfl; exact rfl; exact rfl; (repeat (first | exact at_put_same _ _ _ | exact at_new_same _ _ | assumption | refine (at_gap _ _ _).trans ?_ | refine (at_new_ne (by (first | assumption | ((try simp only [NX]); omega)))).trans ?_ | refine (at_put_ne (by (first | assumption | ((try simp only [NX]); omega)))).trans ?_ | refine (Ext.at (by assumption) (by (first | assumption | ((try simp only [NX]); omega)))).trans ?_)); exact Nat.le_of_ble_eq_true rfl; ((try simp only [LL]); exact rfl))
    | ((with_reducible apply ev_store); exact rfl; (repeat (first | exact at_put_same _ _ _ | exact at_new_same _ _ | assumption | refine (at_gap _ _ _).trans ?_ | refine (at_new_ne (by (first | assumption | ((try simp only [NX]); omega)))).trans ?_ | refine (at_put_ne (by (first | assumption | ((try simp only [NX]); omega)))).trans ?_ | refine (Ext.at (by assumption) (by (first | assumption | ((try simp only [NX]); omega)))).trans ?_)); ((try simp only [LL]); exact rfl); exact rfl; exact Nat.le_of_ble_eq_true rfl; exact rfl; ((try simp only [LL]); exact rfl))
    | ((with_reducible apply ev_build); exact rfl; exact rfl; exact rfl; ((simp only [ZCS]); exact rfl); ((try simp only [LL]); exact rfl))
    | ((with_reducible apply ev_fieldAddr); exact rfl; exact rfl; exact rfl; exact rfl; ((try simp only [NG]); exact rfl))
    | ((with_reducible apply ev_buildSlice); exact rfl; exact rfl; ((simp only [ZCS]); exact rfl); exact rfl; ((try simp only [LL]); exact rfl))
    | ((with_reducible apply ev_indexAddr); exact rfl; exact rfl; exact rfl; (first | exact Nat.le_of_ble_eq_true rfl | assumption | omega); ((try simp only [LL]); exact rfl))
    | ((with_reducible apply ev_extract); exact rfl)
    | ((with_reducible apply ev_field); exact rfl; exact rfl; exact rfl; exact rfl; exact rfl)
    | ((with_reducible apply ev_condT); exact rfl)
    | ((with_reducible apply ev_condF); exact rfl)
    | ((with_reducible apply ev_test); exact veq_refl _ _ rfl)
    | ((with_reducible apply ev_ko); exact rfl)); try simp only [NB]))
  refine ev_ko2' ((lcall_spec (C := CT) (f := 62) rfl).trans (turn_run h h0 hc)) ?_
  exact ev_ret rfl

theorem Upd.refl {S : Nat → Prop} (H : LH) : Upd S H H := ⟨Nat.le_refl _, fun _ _ _ => rfl⟩
theorem Upd.to_ext {H H' : LH} {c : Nat} (h : Upd (fun i => i = c) H H') (hc : H'.at c = H.at c) : Ext H H' :=
  ⟨h.next, fun i hi _ => by
    by_cases e : i = c
    · subst e; exact hc
    · exact h.at_ i hi e⟩
theorem NoLog.put {H : LH} {lv : Value} (h : NoLog H lv) {c s : Nat} {l : List Value} {o : Option LObj} (hc : H.at c = some (.cells l 112 s)) : NoLog (H.put c o) lv := by
  rcases h with h | ⟨b, h1, h2, h3⟩
  · exact .inl h
  · refine .inr ⟨b, h1, h2, (at_put_ne fun e => ?_).trans h3⟩
    subst e
    rw [h3] at hc
    injection hc with hc; injection hc with _ hc
    cases hc

theorem NoLog.upd {H H' : LH} {lv : Value} (h : NoLog H lv) {c s : Nat} {l : List Value} (hc : H.at c = some (.cells l 112 s)) (hu : Upd (fun i => i = c) H H') : NoLog H' lv := by
  rcases h with h | ⟨b, h1, h2, h3⟩
  · exact .inl h
  · refine .inr ⟨b, h1, Nat.lt_of_lt_of_le h2 hu.next, (hu.at h2 fun e => ?_).trans h3⟩
    subst e
    rw [h3] at hc
    injection hc with hc; injection hc with _ hc
    cases hc

def curL (lv : Value) (lsn : Int) : List Value := [.int .i32 0, .int .u32 0, lv, .int .i64 lsn]
theorem next_no {n : Nat} {H : LH} {lv : Value} (h : NoLog H lv) {c : Nat} {lsn : Int} (hlt : c < H.next) (hc : H.at c = some (.cells [.int .i32 0, .int .u32 0, lv, .int .i64 lsn] 112 1)) :
    Ev (lcall CT (n + 3) 14 [.pointer (some ⟨c, 0, none⟩)] H) fun v H' => v = .tuple #[.agg #[.int .i64 0, .slice none 0 0], .int .i64 41] ∧ Ext H H' := by
  refine ev_l (fun _ => L14) ?_
  unfold R14
  (repeat ((first
    | ((with_reducible apply ev_new); ((try simp only [LL]); exact rfl))
    | ((with_reducible apply ev_alloc); exact rfl; ((simp only [ZCS]); exact rfl))
    | ((with_reducible apply ev_load); exact rfl; exact rfl; (repeat (first | exact at_put_same _ _ _ | exact at_new_same _ _ | assumption | refine (at_gap _ _ _).trans ?_ | refine (at_new_ne (by (first | assumption | ((try simp only [NX]); omega)))).trans ?_ | refine (at_put_ne (by (first | assumption | ((try simp only [NX]); omega)))).trans ?_ | refine (Ext.at (by assumption) (by (first | assumption | ((try simp only [NX]); omega)))).trans ?_)); exact rfl)
    | ((with_reducible apply ev_loads); exact rfl; exact rfl; exact rfl; (repeat (first | exact at_put_same _ _ _ | exact at_new_same _ _ | assumption | refine (at_gap _ _ _).trans ?_ | refine (at_new_ne (by (first | assumption | ((try simp only [NX]); omega)))).trans ?_ | refine (at_put_ne (by (first | assumption | ((try simp only [NX]); omega)))).trans ?_ | refine (Ext.at (by assumption) (by (first | assumption | ((try simp only [NX]); omega)))).trans ?_)); exact Nat.le_of_ble_eq_true rfl; ((try simp only [LL]); exact rfl))
    | ((with_reducible apply ev_store); exact rfl; (repeat (first | exact at_put_same _ _ _ | exact at_new_same _ _ | assumption | refine (at_gap _ _ _).trans ?_ | refine (at_new_ne (by (first | assumption | ((try simp only [NX]); omega)))).trans ?_ | refine (at_put_ne (by (first | assumption | ((try simp only [NX]); omega)))).trans ?_ | refine (Ext.at (by assumption) (by (first | assumption | ((try simp only [NX]); omega)))).trans ?_)); ((try simp only [LL]); exact rfl); exact rfl; exact Nat.le_of_ble_eq_true rfl; exact rfl; ((try simp only [LL]); exact rfl))
    | ((with_reducible apply ev_build); exact rfl; exact rfl; exact rfl; ((simp only [ZCS]); exact rfl); ((try simp only [LL]); exact rfl))
    | ((with_reducible apply ev_fieldAddr); exact rfl; exact rfl; exact rfl; exact rfl; ((try simp only [NG]); exact rfl))
    | ((with_reducible apply ev_buildSlice); exact rfl; exact rfl; ((simp only [ZCS]); exact rfl); exact rfl; ((try simp only [LL]); exact rfl))
    | ((with_reducible apply ev_indexAddr); exact rfl; exact rfl; exact rfl; (first | exact Nat.le_of_ble_eq_true rfl | assumption | omega); ((try simp only [LL]); exact rfl))
    | ((with_reducible apply ev_extract); exact rfl)
    | ((with_reducible apply ev_field); exact rfl; exact rfl; exact rfl; exact rfl; exact rfl)
    | ((with_reducible apply ev_condT); exact rfl)
    | ((with_reducible apply ev_condF); exact rfl)
    | ((with_reducible apply ev_test); exact veq_refl _ _ rfl)
    | ((with_reducible apply ev_ko); exact rfl)); try simp only [NB]))
  refine ev_ko2 (lock_ok (by (repeat (first | exact at_put_same _ _ _ | exact at_new_same _ _ | assumption | refine (at_gap _ _ _).trans ?_ | refine (at_new_ne (by (first | assumption | ((try simp only [NX]); omega)))).trans ?_ | refine (at_put_ne (by (first | assumption | ((try simp only [NX]); omega)))).trans ?_ | refine (Ext.at (by assumption) (by (first | assumption | ((try simp only [NX]); omega)))).trans ?_))) rfl (by ((try simp only [LL]); exact rfl))) ?_
  rintro v H1 ⟨rfl, rfl⟩
  (repeat ((first
    | ((with_reducible apply ev_new); ((try simp only [LL]); exact rfl))
    | ((with_reducible apply ev_alloc); exact rfl; ((simp only [ZCS]); exact rfl))
    | ((with_reducible apply ev_load); exact rfl; exact rfl; (repeat (first | exact at_put_same _ _ _ | exact at_new_same _ _ | assumption | refine (at_gap _ _ _).trans ?_ | refine (at_new_ne (by (first | assumption | ((try simp only [NX]); omega)))).trans ?_ | refine (at_put_ne (by (first | assumption | ((try simp only [NX]); omega)))).trans ?_ | refine (Ext.at (by assumption) (by (first | assumption | ((try simp only [NX]); omega)))).trans ?_)); exact rfl)
    | ((with_reducible apply ev_loads); exact rfl; exact rfl; exact rfl; (repeat (first | exact at_put_same _ _ _ | exact at_new_same _ _ | assumption | refine (at_gap _ _ _).trans ?_ | refine (at_new_ne (by (first | assumption | ((try simp only [NX]); omega)))).trans ?_ | refine (at_put_ne (by (first | assumption | ((try simp only [NX]); omega)))).trans ?_ | refine (Ext.at (by assumption) (by (first | assumption | ((try simp only [NX]); omega)))).trans ?_)); exact Nat.le_of_ble_eq_true rfl; ((try simp only [LL]); exact rfl))
    | ((with_reducible apply ev_store); exact rfl; (repeat (first | exact at_put_same _ _ _ | exact at_new_same _ _ | assumption | refine (at_gap _ _ _).trans ?_ | refine (at_new_ne (by (first | assumption | ((try simp only [NX]); omega)))).trans ?_ | refine (at_put_ne (by (first | assumption | ((try simp only [NX]); omega)))).trans ?_ | refine (Ext.at (by assumption) (by (first | assumption | ((try simp only [NX]); omega)))).trans ?_)); ((try simp only [LL]); exact rfl); exact rfl; exact Nat.le_of_ble_eq_true rfl; exact rfl; ((try simp only [LL]); exact rfl))
    | ((with_reducible apply ev_build); exact rfl; exact rfl; exact rfl; ((simp only [ZCS]); exact rfl); ((try simp only [LL]); exact rfl))
    | ((with_reducible apply ev_fieldAddr); exact rfl; exact rfl; exact rfl; exact rfl; ((try simp only [NG]); exact rfl))
    | ((with_reducible apply ev_buildSlice); exact rfl; exact rfl; ((simp only [ZCS]); exact rfl); exact rfl; ((try simp only [LL]); exact rfl))
    | ((with_reducible apply ev_indexAddr); exact rfl; exact rfl; exact rfl; (first | exact Nat.le_of_ble_eq_true rfl | assumption | omega); ((try simp only [LL]); exact rfl))
    | ((with_reducible apply ev_extract); exact rfl)
    | ((with_reducible apply ev_field); exact rfl; exact rfl; exact rfl; exact rfl; exact rfl)
    | ((with_reducible apply ev_condT); exact rfl)
    | ((with_reducible apply ev_condF); exact rfl)
    | ((with_reducible apply ev_test); exact veq_refl _ _ rfl)
    | ((with_reducible apply ev_ko); exact rfl)); try simp only [NB]))
  refine ev_ko2 (tell_no (h.upd hc (by (repeat (first | exact Upd.refl _ | assumption | refine Upd.put ?_ _ (by first | exact .inl rfl | exact .inr (Nat.le_refl _) | (refine .inr ?_; (try simp only [NX]); omega)) | refine Upd.new ?_ _ | refine Upd.gap ?_ _ | refine Upd.trans ?_ (Ext.upd (by assumption)))))) lsn) ?_
  rintro v H2 ⟨rfl, h2⟩
  have h2n := Upd.next h2; (try simp only [NX] at h2n)
  (repeat ((first
    | ((with_reducible apply ev_new); ((try simp only [LL]); exact rfl))
    | ((with_reducible apply ev_alloc); exact rfl; ((simp only [ZCS]); exact rfl))
    | ((with_reducible apply ev_load); exact rfl; exact rfl; (repeat (first | exact at_put_same _ _ _ | exact at_new_same _ _ | assumption | refine (at_gap _ _ _).trans ?_ | refine (at_new_ne (by (first | assumption | ((try simp only [NX]); omega)))).trans ?_ | refine (at_put_ne (by (first | assumption | ((try simp only [NX]); omega)))).trans ?_ | refine (Ext.at (by assumption) (by (first | assumption | ((try simp only [NX]); omega)))).trans ?_)); exact rfl)
    | ((with_reducible apply ev_loads); exact rfl; exact rfl; exact rfl; (repeat (first | exact at_put_same _ _ _ | exact at_new_same _ _ | assumption | refine (at_gap _ _ _).trans ?_ | refine (at_new_ne (by (first | assumption | ((try simp only [NX]); omega)))).trans ?_ | refine (at_put_ne (by (first | assumption | ((try simp only [NX]); omega)))).trans ?_ | refine (Ext.at (by assumption) (by (first | assumption | ((try simp only [NX]); omega)))).trans ?_)); exact Nat.le_of_ble_eq_true rfl; ((try simp only [LL]); exact rfl))
    | ((with_reducible apply ev_store); exact rfl; (repeat (first | exact at_put_same _ _ _ | exact at_new_same _ _ | assumption | refine (at_gap _ _ _).trans ?_ | refine (at_new_ne (by (first | assumption | ((try simp only [NX]); omega)))).trans ?_ | refine (at_put_ne (by (first | assumption | ((try simp only [NX]); omega)))).trans ?_ | refine (Ext.at (by assumption) (by (first | assumption | ((try simp only [NX]); omega)))).trans ?_)); ((try simp only [LL]); exact rfl); exact rfl; exact Nat.le_of_ble_eq_true rfl; exact rfl; ((try simp only [LL]); exact rfl))
    | ((with_reducible apply ev_build); exact rfl; exact rfl; exact rfl; ((simp only [ZCS]); exact rfl); ((try simp only [LL]); exact rfl))
    | ((with_reducible apply ev_fieldAddr); exact rfl; exact rfl; exact rfl; exact rfl; ((try simp only [NG]); exact rfl))
    | ((with_reducible apply ev_buildSlice); exact rfl; exact rfl; ((simp only [ZCS]); exact rfl); exact rfl; ((try simp only [LL]); exact rfl))
    | ((with_reducible apply ev_indexAddr); exact rfl; exact rfl; exact rfl; (first | exact Nat.le_of_ble_eq_true rfl | assumption | omega); ((try simp only [LL]); exact rfl))
    | ((with_reducible apply ev_extract); exact rfl)
    | ((with_reducible apply ev_field); exact rfl; exact rfl; exact rfl; exact rfl; exact rfl)
    | ((with_reducible apply ev_condT); exact rfl)
    | ((with_reducible apply ev_condF); exact rfl)
    | ((with_reducible apply ev_test); exact veq_refl _ _ rfl)
    | ((with_reducible apply ev_ko); exact rfl)); try simp only [NB]))
  refine ev_defer rfl rfl (unlock_ok (by (repeat (first | exact at_put_same _ _ _ | exact at_new_same _ _ | assumption | refine (at_gap _ _ _).trans ?_ | refine (at_new_ne (by (first | assumption | ((try simp only [NX]); omega)))).trans ?_ | refine (at_put_ne (by (first | assumption | ((try simp only [NX]); omega)))).trans ?_ | refine (Ext.at (by assumption) (by (first | assumption | ((try simp only [NX]); omega)))).trans ?_))) rfl (by ((try simp only [LL]); exact rfl))) ?_
  rintro H3 rfl
  (repeat ((first
    | ((with_reducible apply ev_new); ((try simp only [LL]); exact rfl))
    | ((with_reducible apply ev_alloc); exact rfl; ((simp only [ZCS]); exact rfl))
    | ((with_reducible apply ev_load); exact rfl; exact rfl; (repeat (first | exact at_put_same _ _ _ | exact at_new_same _ _ | assumption | refine (at_gap _ _ _).trans ?_ | refine (at_new_ne (by (first | assumption | ((try simp only [NX]); omega)))).trans ?_ | refine (at_put_ne (by (first | assumption | ((try simp only [NX]); omega)))).trans ?_ | refine (Ext.at (by assumption) (by (first | assumption | ((try simp only [NX]); omega)))).trans ?_)); exact rfl)
    | ((with_reducible apply ev_loads); exact rfl; exact rfl; exact rfl; (repeat (first | exact at_put_same _ _ _ | exact at_new_same _ _ | assumption | refine (at_gap _ _ _).trans ?_ | refine (at_new_ne (by (first | assumption | ((try simp only [NX]); omega)))).trans ?_ | refine (at_put_ne (by (first | assumption | ((try simp only [NX]); omega)))).trans ?_ | refine (Ext.at (by assumption) (by (first | assumption | ((try simp only [NX]); omega)))).trans ?_)); exact Nat.le_of_ble_eq_true rfl; ((try simp only [LL]); exact rfl))
    | ((with_reducible apply ev_store); exact rfl; (repeat (first | exact at_put_same _ _ _ | exact at_new_same _ _ | assumption | refine (at_gap _ _ _).trans ?_ | refine (at_new_ne (by (first | assumption | ((try simp only [NX]); omega)))).trans ?_ | refine (at_put_ne (by (first | assumption | ((try simp only [NX]); omega)))).trans ?_ | refine (Ext.at (by assumption) (by (first | assumption | ((try simp only [NX]); omega)))).trans ?_)); ((try simp only [LL]); exact rfl); exact rfl; exact Nat.le_of_ble_eq_true rfl; exact rfl; ((try simp only [LL]); exact rfl))
    | ((with_reducible apply ev_build); exact rfl; exact rfl; exact rfl; ((simp only [ZCS]); exact rfl); ((try simp only [LL]); exact rfl))
    | ((with_reducible apply ev_fieldAddr); exact rfl; exact rfl; exact rfl; exact rfl; ((try simp only [NG]); exact rfl))
    | ((with_reducible apply ev_buildSlice); exact rfl; exact rfl; ((simp only [ZCS]); exact rfl); exact rfl; ((try simp only [LL]); exact rfl))
    | ((with_reducible apply ev_indexAddr); exact rfl; exact rfl; exact rfl; (first | exact Nat.le_of_ble_eq_true rfl | assumption | omega); ((try simp only [LL]); exact rfl))
    | ((with_reducible apply ev_extract); exact rfl)
    | ((with_reducible apply ev_field); exact rfl; exact rfl; exact rfl; exact rfl; exact rfl)
    | ((with_reducible apply ev_condT); exact rfl)
    | ((with_reducible apply ev_condF); exact rfl)
    | ((with_reducible apply ev_test); exact veq_refl _ _ rfl)
    | ((with_reducible apply ev_ko); exact rfl)); try simp only [NB]))
  refine ev_ret ⟨rfl, ?_⟩
  refine Upd.to_ext (c := c) (by (repeat (first | exact Upd.refl _ | assumption | refine Upd.put ?_ _ (by first | exact .inl rfl | exact .inr (Nat.le_refl _) | (refine .inr ?_; (try simp only [NX]); omega)) | refine Upd.new ?_ _ | refine Upd.gap ?_ _ | refine Upd.trans ?_ (Ext.upd (by assumption))))) ?_
  exact Eq.trans (by (repeat (first | exact at_put_same _ _ _ | exact at_new_same _ _ | assumption | refine (at_gap _ _ _).trans ?_ | refine (at_new_ne (by (first | assumption | ((try simp only [NX]); omega)))).trans ?_ | refine (at_put_ne (by (first | assumption | ((try simp only [NX]); omega)))).trans ?_ | refine (Ext.at (by assumption) (by (first | assumption | ((try simp only [NX]); omega)))).trans ?_))) hc.symm
theorem at_no {n : Nat} {H : LH} {lv : Value} {c : Nat} {lsn : Int} (hlt : c < H.next) (hc : H.at c = some (.cells [.int .i32 0, .int .u32 0, lv, .int .i64 lsn] 112 1)) :
    Ev (lcall CT (n + 3) 15 [.pointer (some ⟨c, 0, none⟩)] H) fun v H' => v = .int .i64 lsn ∧ Ext H H' := by
  refine ev_l (fun _ => L15) ?_
  unfold R15
  (repeat ((first
    | ((with_reducible apply ev_new); ((try simp only [LL]); exact rfl))
    | ((with_reducible apply ev_alloc); exact rfl; ((simp only [ZCS]); exact rfl))
    | ((with_reducible apply ev_load); exact rfl; exact rfl; (repeat (first | exact at_put_same _ _ _ | exact at_new_same _ _ | assumption | refine (at_gap _ _ _).trans ?_ | refine (at_new_ne (by (first | assumption | ((try simp only [NX]); omega)))).trans ?_ | refine (at_put_ne (by (first | assumption | ((try simp only [NX]); omega)))).trans ?_ | refine (Ext.at (by assumption) (by (first | assumption | ((try simp only [NX]); omega)))).trans ?_)); exact rfl)
    | ((with_reducible apply ev_loads); exact rfl; exact rfl; exact rfl; (repeat (first | exact at_put_same _ _ _ | exact at_new_same _ _ | assumption | refine (at_gap _ _ _).trans ?_ | refine (at_new_ne (by (first | assumption | ((try simp only [NX]); omega)))).trans ?_ | refine (at_put_ne (by (first | assumption | ((try simp only [NX]); omega)))).trans ?_ | refine (Ext.at (by assumption) (by (first | assumption | ((try simp only [NX]); omega)))).trans ?_)); exact Nat.le_of_ble_eq_true rfl; ((try simp only [LL]); exact rfl))
    | ((with_reducible apply ev_store); exact rfl; (repeat (first | exact at_put_same _ _ _ | exact at_new_same _ _ | assumption | refine (at_gap _ _ _).trans ?_ | refine (at_new_ne (by (first | assumption | ((try simp only [NX]); omega)))).trans ?_ | refine (at_put_ne (by (first | assumption | ((try simp only [NX]); omega)))).trans ?_ | refine (Ext.at (by assumption) (by (first | assumption | ((try simp only [NX]); omega)))).trans ?_)); ((try simp only [LL]); exact rfl); exact rfl; exact Nat.le_of_ble_eq_true rfl; exact rfl; ((try simp only [LL]); exact rfl))
    | ((with_reducible apply ev_build); exact rfl; exact rfl; exact rfl; ((simp only [ZCS]); exact rfl); ((try simp only [LL]); exact rfl))
    | ((with_reducible apply ev_fieldAddr); exact rfl; exact rfl; exact rfl; exact rfl; ((try simp only [NG]); exact rfl))
    | ((with_reducible apply ev_buildSlice); exact rfl; exact rfl; ((simp only [ZCS]); exact rfl); exact rfl; ((try simp only [LL]); exact rfl))
    | ((with_reducible apply ev_indexAddr); exact rfl; exact rfl; exact rfl; (first | exact Nat.le_of_ble_eq_true rfl | assumption | omega); ((try simp only [LL]); exact rfl))
    | ((with_reducible apply ev_extract); exact rfl)
    | ((with_reducible apply ev_field); exact rfl; exact rfl; exact rfl; exact rfl; exact rfl)
    | ((with_reducible apply ev_condT); exact rfl)
    | ((with_reducible apply ev_condF); exact rfl)
    | ((with_reducible apply ev_test); exact veq_refl _ _ rfl)
    | ((with_reducible apply ev_ko); exact rfl)); try simp only [NB]))
  refine ev_ko2 (lock_ok (by (repeat (first | exact at_put_same _ _ _ | exact at_new_same _ _ | assumption | refine (at_gap _ _ _).trans ?_ | refine (at_new_ne (by (first | assumption | ((try simp only [NX]); omega)))).trans ?_ | refine (at_put_ne (by (first | assumption | ((try simp only [NX]); omega)))).trans ?_ | refine (Ext.at (by assumption) (by (first | assumption | ((try simp only [NX]); omega)))).trans ?_))) rfl (by ((try simp only [LL]); exact rfl))) ?_
  rintro v H1 ⟨rfl, rfl⟩
  (repeat ((first
    | ((with_reducible apply ev_new); ((try simp only [LL]); exact rfl))
    | ((with_reducible apply ev_alloc); exact rfl; ((simp only [ZCS]); exact rfl))
    | ((with_reducible apply ev_load); exact rfl; exact rfl; (repeat (first | exact at_put_same _ _ _ | exact at_new_same _ _ | assumption | refine (at_gap _ _ _).trans ?_ | refine (at_new_ne (by (first | assumption | ((try simp only [NX]); omega)))).trans ?_ | refine (at_put_ne (by (first | assumption | ((try simp only [NX]); omega)))).trans ?_ | refine (Ext.at (by assumption) (by (first | assumption | ((try simp only [NX]); omega)))).trans ?_)); exact rfl)
    | ((with_reducible apply ev_loads); exact rfl; exact rfl; exact rfl; (repeat (first | exact at_put_same _ _ _ | exact at_new_same _ _ | assumption | refine (at_gap _ _ _).trans ?_ | refine (at_new_ne (by (first | assumption | ((try simp only [NX]); omega)))).trans ?_ | refine (at_put_ne (by (first | assumption | ((try simp only [NX]); omega)))).trans ?_ | refine (Ext.at (by assumption) (by (first | assumption | ((try simp only [NX]); omega)))).trans ?_)); exact Nat.le_of_ble_eq_true rfl; ((try simp only [LL]); exact rfl))
    | ((with_reducible apply ev_store); exact rfl; (repeat (first | exact at_put_same _ _ _ | exact at_new_same _ _ | assumption | refine (at_gap _ _ _).trans ?_ | refine (at_new_ne (by (first | assumption | ((try simp only [NX]); omega)))).trans ?_ | refine (at_put_ne (by (first | assumption | ((try simp only [NX]); omega)))).trans ?_ | refine (Ext.at (by assumption) (by (first | assumption | ((try simp only [NX]); omega)))).trans ?_)); ((try simp only [LL]); exact rfl); exact rfl; exact Nat.le_of_ble_eq_true rfl; exact rfl; ((try simp only [LL]); exact rfl))
    | ((with_reducible apply ev_build); exact rfl; exact rfl; exact rfl; ((simp only [ZCS]); exact rfl); ((try simp only [LL]); exact rfl))
    | ((with_reducible apply ev_fieldAddr); exact rfl; exact rfl; exact rfl; exact rfl; ((try simp only [NG]); exact rfl))
    | ((with_reducible apply ev_buildSlice); exact rfl; exact rfl; ((simp only [ZCS]); exact rfl); exact rfl; ((try simp only [LL]); exact rfl))
    | ((with_reducible apply ev_indexAddr); exact rfl; exact rfl; exact rfl; (first | exact Nat.le_of_ble_eq_true rfl | assumption | omega); ((try simp only [LL]); exact rfl))
    | ((with_reducible apply ev_extract); exact rfl)
    | ((with_reducible apply ev_field); exact rfl; exact rfl; exact rfl; exact rfl; exact rfl)
    | ((with_reducible apply ev_condT); exact rfl)
    | ((with_reducible apply ev_condF); exact rfl)
    | ((with_reducible apply ev_test); exact veq_refl _ _ rfl)
    | ((with_reducible apply ev_ko); exact rfl)); try simp only [NB]))
  refine ev_defer rfl rfl (unlock_ok (by (repeat (first | exact at_put_same _ _ _ | exact at_new_same _ _ | assumption | refine (at_gap _ _ _).trans ?_ | refine (at_new_ne (by (first | assumption | ((try simp only [NX]); omega)))).trans ?_ | refine (at_put_ne (by (first | assumption | ((try simp only [NX]); omega)))).trans ?_ | refine (Ext.at (by assumption) (by (first | assumption | ((try simp only [NX]); omega)))).trans ?_))) rfl (by ((try simp only [LL]); exact rfl))) ?_
  rintro H3 rfl
  refine ev_ret ⟨rfl, ?_⟩
  refine Upd.to_ext (c := c) (by (repeat (first | exact Upd.refl _ | assumption | refine Upd.put ?_ _ (by first | exact .inl rfl | exact .inr (Nat.le_refl _) | (refine .inr ?_; (try simp only [NX]); omega)) | refine Upd.new ?_ _ | refine Upd.gap ?_ _ | refine Upd.trans ?_ (Ext.upd (by assumption))))) ?_
  exact Eq.trans (by (repeat (first | exact at_put_same _ _ _ | exact at_new_same _ _ | assumption | refine (at_gap _ _ _).trans ?_ | refine (at_new_ne (by (first | assumption | ((try simp only [NX]); omega)))).trans ?_ | refine (at_put_ne (by (first | assumption | ((try simp only [NX]); omega)))).trans ?_ | refine (Ext.at (by assumption) (by (first | assumption | ((try simp only [NX]); omega)))).trans ?_))) hc.symm
theorem stand_none (n : Nat) (H : LH) (l : Int) : Ev (lcall CT (n + 1) 23 [.pointer none, .int .i64 l] H) fun v H' => v = .tuple #[] ∧ H' = H := by
  refine ev_l (fun _ => L23) ?_
  unfold R23
  (repeat ((first
    | ((with_reducible apply ev_new); ((try simp only [LL]); exact rfl))
    | ((with_reducible apply ev_alloc); exact rfl; ((simp only [ZCS]); exact rfl))
    | ((with_reducible apply ev_load); exact rfl; exact rfl; (repeat (first | exact at_put_same _ _ _ | exact at_new_same _ _ | assumption | refine (at_gap _ _ _).trans ?_ | refine (at_new_ne (by (first | assumption | ((try simp only [NX]); omega)))).trans ?_ | refine (at_put_ne (by (first | assumption | ((try simp only [NX]); omega)))).trans ?_ | refine (Ext.at (by assumption) (by (first | assumption | ((try simp only [NX]); omega)))).trans ?_)); exact rfl)
    | ((with_reducible apply ev_loads); exact rfl; exact rfl; exact rfl; (repeat (first | exact at_put_same _ _ _ | exact at_new_same _ _ | assumption | refine (at_gap _ _ _).trans ?_ | refine (at_new_ne (by (first | assumption | ((try simp only [NX]); omega)))).trans ?_ | refine (at_put_ne (by (first | assumption | ((try simp only [NX]); omega)))).trans ?_ | refine (Ext.at (by assumption) (by (first | assumption | ((try simp only [NX]); omega)))).trans ?_)); exact Nat.le_of_ble_eq_true rfl; ((try simp only [LL]); exact rfl))
    | ((with_reducible apply ev_store); exact rfl; (repeat (first | exact at_put_same _ _ _ | exact at_new_same _ _ | assumption | refine (at_gap _ _ _).trans ?_ | refine (at_new_ne (by (first | assumption | ((try simp only [NX]); omega)))).trans ?_ | refine (at_put_ne (by (first | assumption | ((try simp only [NX]); omega)))).trans ?_ | refine (Ext.at (by assumption) (by (first | assumption | ((try simp only [NX]); omega)))).trans ?_)); ((try simp only [LL]); exact rfl); exact rfl; exact Nat.le_of_ble_eq_true rfl; exact rfl; ((try simp only [LL]); exact rfl))
    | ((with_reducible apply ev_build); exact rfl; exact rfl; exact rfl; ((simp only [ZCS]); exact rfl); ((try simp only [LL]); exact rfl))
    | ((with_reducible apply ev_fieldAddr); exact rfl; exact rfl; exact rfl; exact rfl; ((try simp only [NG]); exact rfl))
    | ((with_reducible apply ev_buildSlice); exact rfl; exact rfl; ((simp only [ZCS]); exact rfl); exact rfl; ((try simp only [LL]); exact rfl))
    | ((with_reducible apply ev_indexAddr); exact rfl; exact rfl; exact rfl; (first | exact Nat.le_of_ble_eq_true rfl | assumption | omega); ((try simp only [LL]); exact rfl))
    | ((with_reducible apply ev_extract); exact rfl)
    | ((with_reducible apply ev_field); exact rfl; exact rfl; exact rfl; exact rfl; exact rfl)
    | ((with_reducible apply ev_condT); exact rfl)
    | ((with_reducible apply ev_condF); exact rfl)
    | ((with_reducible apply ev_test); exact veq_refl _ _ rfl)
    | ((with_reducible apply ev_ko); exact rfl)); try simp only [NB]))
  exact ev_ret ⟨rfl, rfl⟩
theorem at_none (n : Nat) (H : LH) : Ev (lcall CT (n + 1) 15 [.pointer none] H) fun v H' => v = .int .i64 0 ∧ H' = H := by
  refine ev_l (fun _ => L15) ?_
  unfold R15
  (repeat ((first
    | ((with_reducible apply ev_new); ((try simp only [LL]); exact rfl))
    | ((with_reducible apply ev_alloc); exact rfl; ((simp only [ZCS]); exact rfl))
    | ((with_reducible apply ev_load); exact rfl; exact rfl; (repeat (first | exact at_put_same _ _ _ | exact at_new_same _ _ | assumption | refine (at_gap _ _ _).trans ?_ | refine (at_new_ne (by (first | assumption | ((try simp only [NX]); omega)))).trans ?_ | refine (at_put_ne (by (first | assumption | ((try simp only [NX]); omega)))).trans ?_ | refine (Ext.at (by assumption) (by (first | assumption | ((try simp only [NX]); omega)))).trans ?_)); exact rfl)
    | ((with_reducible apply ev_loads); exact rfl; exact rfl; exact rfl; (repeat (first | exact at_put_same _ _ _ | exact at_new_same _ _ | assumption | refine (at_gap _ _ _).trans ?_ | refine (at_new_ne (by (first | assumption | ((try simp only [NX]); omega)))).trans ?_ | refine (at_put_ne (by (first | assumption | ((try simp only [NX]); omega)))).trans ?_ | refine (Ext.at (by assumption) (by (first | assumption | ((try simp only [NX]); omega)))).trans ?_)); exact Nat.le_of_ble_eq_true rfl; ((try simp only [LL]); exact rfl))
    | ((with_reducible apply ev_store); exact rfl; (repeat (first | exact at_put_same _ _ _ | exact at_new_same _ _ | assumption | refine (at_gap _ _ _).trans ?_ | refine (at_new_ne (by (first | assumption | ((try simp only [NX]); omega)))).trans ?_ | refine (at_put_ne (by (first | assumption | ((try simp only [NX]); omega)))).trans ?_ | refine (Ext.at (by assumption) (by (first | assumption | ((try simp only [NX]); omega)))).trans ?_)); ((try simp only [LL]); exact rfl); exact rfl; exact Nat.le_of_ble_eq_true rfl; exact rfl; ((try simp only [LL]); exact rfl))
    | ((with_reducible apply ev_build); exact rfl; exact rfl; exact rfl; ((simp only [ZCS]); exact rfl); ((try simp only [LL]); exact rfl))
    | ((with_reducible apply ev_fieldAddr); exact rfl; exact rfl; exact rfl; exact rfl; ((try simp only [NG]); exact rfl))
    | ((with_reducible apply ev_buildSlice); exact rfl; exact rfl; ((simp only [ZCS]); exact rfl); exact rfl; ((try simp only [LL]); exact rfl))
    | ((with_reducible apply ev_indexAddr); exact rfl; exact rfl; exact rfl; (first | exact Nat.le_of_ble_eq_true rfl | assumption | omega); ((try simp only [LL]); exact rfl))
    | ((with_reducible apply ev_extract); exact rfl)
    | ((with_reducible apply ev_field); exact rfl; exact rfl; exact rfl; exact rfl; exact rfl)
    | ((with_reducible apply ev_condT); exact rfl)
    | ((with_reducible apply ev_condF); exact rfl)
    | ((with_reducible apply ev_test); exact veq_refl _ _ rfl)
    | ((with_reducible apply ev_ko); exact rfl)); try simp only [NB]))
  exact ev_ret ⟨rfl, rfl⟩
theorem next_none (n : Nat) (H : LH) : Ev (lcall CT (n + 1) 14 [.pointer none] H) fun v H' => v = .tuple #[.agg #[.int .i64 0, .slice none 0 0], .int .i64 1] ∧ Ext H H' := by
  refine ev_l (fun _ => L14) ?_
  unfold R14
  (repeat ((first
    | ((with_reducible apply ev_new); ((try simp only [LL]); exact rfl))
    | ((with_reducible apply ev_alloc); exact rfl; ((simp only [ZCS]); exact rfl))
    | ((with_reducible apply ev_load); exact rfl; exact rfl; (repeat (first | exact at_put_same _ _ _ | exact at_new_same _ _ | assumption | refine (at_gap _ _ _).trans ?_ | refine (at_new_ne (by (first | assumption | ((try simp only [NX]); omega)))).trans ?_ | refine (at_put_ne (by (first | assumption | ((try simp only [NX]); omega)))).trans ?_ | refine (Ext.at (by assumption) (by (first | assumption | ((try simp only [NX]); omega)))).trans ?_)); exact rfl)
    | ((with_reducible apply ev_loads); exact rfl; exact rfl; exact rfl; (repeat (first | exact at_put_same _ _ _ | exact at_new_same _ _ | assumption | refine (at_gap _ _ _).trans ?_ | refine (at_new_ne (by (first | assumption | ((try simp only [NX]); omega)))).trans ?_ | refine (at_put_ne (by (first | assumption | ((try simp only [NX]); omega)))).trans ?_ | refine (Ext.at (by assumption) (by (first | assumption | ((try simp only [NX]); omega)))).trans ?_)); exact Nat.le_of_ble_eq_true rfl; ((try simp only [LL]); exact rfl))
    | ((with_reducible apply ev_store); exact rfl; (repeat (first | exact at_put_same _ _ _ | exact at_new_same _ _ | assumption | refine (at_gap _ _ _).trans ?_ | refine (at_new_ne (by (first | assumption | ((try simp only [NX]); omega)))).trans ?_ | refine (at_put_ne (by (first | assumption | ((try simp only [NX]); omega)))).trans ?_ | refine (Ext.at (by assumption) (by (first | assumption | ((try simp only [NX]); omega)))).trans ?_)); ((try simp only [LL]); exact rfl); exact rfl; exact Nat.le_of_ble_eq_true rfl; exact rfl; ((try simp only [LL]); exact rfl))
    | ((with_reducible apply ev_build); exact rfl; exact rfl; exact rfl; ((simp only [ZCS]); exact rfl); ((try simp only [LL]); exact rfl))
    | ((with_reducible apply ev_fieldAddr); exact rfl; exact rfl; exact rfl; exact rfl; ((try simp only [NG]); exact rfl))
    | ((with_reducible apply ev_buildSlice); exact rfl; exact rfl; ((simp only [ZCS]); exact rfl); exact rfl; ((try simp only [LL]); exact rfl))
    | ((with_reducible apply ev_indexAddr); exact rfl; exact rfl; exact rfl; (first | exact Nat.le_of_ble_eq_true rfl | assumption | omega); ((try simp only [LL]); exact rfl))
    | ((with_reducible apply ev_extract); exact rfl)
    | ((with_reducible apply ev_field); exact rfl; exact rfl; exact rfl; exact rfl; exact rfl)
    | ((with_reducible apply ev_condT); exact rfl)
    | ((with_reducible apply ev_condF); exact rfl)
    | ((with_reducible apply ev_test); exact veq_refl _ _ rfl)
    | ((with_reducible apply ev_ko); exact rfl)); try simp only [NB]))
  exact ev_ret ⟨rfl, by (repeat (first | exact Ext.refl _ | assumption | refine Upd.put ?_ _ (.inr (by first | exact Nat.le_refl _ | ((try simp only [NX]); omega))) | refine Upd.new ?_ _ | refine Upd.gap ?_ _ | refine Upd.trans ?_ (by assumption)))⟩
theorem from_no {n : Nat} {H : LH} {p : Option Addr} {lsn : Int} : Ev (lcall CT (n + 1) 12 [.pointer p, .int .i64 lsn] H) fun v H' => v = .pointer (some ⟨H.next, 0, none⟩) ∧ H' = H.new (.cells [.int .i32 0, .int .u32 0, .pointer p, .int .i64 lsn] 112 1) := by
  refine ev_l (fun _ => L12) ?_
  unfold R12
  (repeat ((first
    | ((with_reducible apply ev_new); ((try simp only [LL]); exact rfl))
    | ((with_reducible apply ev_alloc); exact rfl; ((simp only [ZCS]); exact rfl))
    | ((with_reducible apply ev_load); exact rfl; exact rfl; (repeat (first | exact at_put_same _ _ _ | exact at_new_same _ _ | assumption | refine (at_gap _ _ _).trans ?_ | refine (at_new_ne (by (first | assumption | ((try simp only [NX]); omega)))).trans ?_ | refine (at_put_ne (by (first | assumption | ((try simp only [NX]); omega)))).trans ?_ | refine (Ext.at (by assumption) (by (first | assumption | ((try simp only [NX]); omega)))).trans ?_)); exact rfl)
    | ((with_reducible apply ev_loads); exact rfl; exact rfl; exact rfl; (repeat (first | exact at_put_same _ _ _ | exact at_new_same _ _ | assumption | refine (at_gap _ _ _).trans ?_ | refine (at_new_ne (by (first | assumption | ((try simp only [NX]); omega)))).trans ?_ | refine (at_put_ne (by (first | assumption | ((try simp only [NX]); omega)))).trans ?_ | refine (Ext.at (by assumption) (by (first | assumption | ((try simp only [NX]); omega)))).trans ?_)); exact Nat.le_of_ble_eq_true rfl; ((try simp only [LL]); exact rfl))
    | ((with_reducible apply ev_store); exact rfl; (repeat (first | exact at_put_same _ _ _ | exact at_new_same _ _ | assumption | refine (at_gap _ _ _).trans ?_ | refine (at_new_ne (by (first | assumption | ((try simp only [NX]); omega)))).trans ?_ | refine (at_put_ne (by (first | assumption | ((try simp only [NX]); omega)))).trans ?_ | refine (Ext.at (by assumption) (by (first | assumption | ((try simp only [NX]); omega)))).trans ?_)); ((try simp only [LL]); exact rfl); exact rfl; exact Nat.le_of_ble_eq_true rfl; exact rfl; ((try simp only [LL]); exact rfl))
    | ((with_reducible apply ev_build); exact rfl; exact rfl; exact rfl; ((simp only [ZCS]); exact rfl); ((try simp only [LL]); exact rfl))
    | ((with_reducible apply ev_fieldAddr); exact rfl; exact rfl; exact rfl; exact rfl; ((try simp only [NG]); exact rfl))
    | ((with_reducible apply ev_buildSlice); exact rfl; exact rfl; ((simp only [ZCS]); exact rfl); exact rfl; ((try simp only [LL]); exact rfl))
    | ((with_reducible apply ev_indexAddr); exact rfl; exact rfl; exact rfl; (first | exact Nat.le_of_ble_eq_true rfl | assumption | omega); ((try simp only [LL]); exact rfl))
    | ((with_reducible apply ev_extract); exact rfl)
    | ((with_reducible apply ev_field); exact rfl; exact rfl; exact rfl; exact rfl; exact rfl)
    | ((with_reducible apply ev_condT); exact rfl)
    | ((with_reducible apply ev_condF); exact rfl)
    | ((with_reducible apply ev_test); exact veq_refl _ _ rfl)
    | ((with_reducible apply ev_ko); exact rfl)); try simp only [NB]))
  exact ev_ret ⟨rfl, rfl⟩
theorem all_no {n : Nat} {H : LH} {p : Option Addr} {lsn : Int} : Ev (lcall CT (n + 1) 21 [.pointer p, .int .i64 lsn] H) fun v H' => v = .func (.func 42) #[] #[.pointer (some ⟨H.next + 1, 0, none⟩), .pointer (some ⟨H.next, 0, none⟩)] ∧ H' = (H.new (.cells [.pointer p] 25 1)).new (.cells [.int .i64 lsn] 2 1) := by
  refine ev_l (fun _ => L21) ?_
  unfold R21
  (repeat ((first
    | ((with_reducible apply ev_new); ((try simp only [LL]); exact rfl))
    | ((with_reducible apply ev_alloc); exact rfl; ((simp only [ZCS]); exact rfl))
    | ((with_reducible apply ev_load); exact rfl; exact rfl; (repeat (first | exact at_put_same _ _ _ | exact at_new_same _ _ | assumption | refine (at_gap _ _ _).trans ?_ | refine (at_new_ne (by (first | assumption | ((try simp only [NX]); omega)))).trans ?_ | refine (at_put_ne (by (first | assumption | ((try simp only [NX]); omega)))).trans ?_ | refine (Ext.at (by assumption) (by (first | assumption | ((try simp only [NX]); omega)))).trans ?_)); exact rfl)
    | ((with_reducible apply ev_loads); exact rfl; exact rfl; exact rfl; (repeat (first | exact at_put_same _ _ _ | exact at_new_same _ _ | assumption | refine (at_gap _ _ _).trans ?_ | refine (at_new_ne (by (first | assumption | ((try simp only [NX]); omega)))).trans ?_ | refine (at_put_ne (by (first | assumption | ((try simp only [NX]); omega)))).trans ?_ | refine (Ext.at (by assumption) (by (first | assumption | ((try simp only [NX]); omega)))).trans ?_)); exact Nat.le_of_ble_eq_true rfl; ((try simp only [LL]); exact rfl))
    | ((with_reducible apply ev_store); exact rfl; (repeat (first | exact at_put_same _ _ _ | exact at_new_same _ _ | assumption | refine (at_gap _ _ _).trans ?_ | refine (at_new_ne (by (first | assumption | ((try simp only [NX]); omega)))).trans ?_ | refine (at_put_ne (by (first | assumption | ((try simp only [NX]); omega)))).trans ?_ | refine (Ext.at (by assumption) (by (first | assumption | ((try simp only [NX]); omega)))).trans ?_)); ((try simp only [LL]); exact rfl); exact rfl; exact Nat.le_of_ble_eq_true rfl; exact rfl; ((try simp only [LL]); exact rfl))
    | ((with_reducible apply ev_build); exact rfl; exact rfl; exact rfl; ((simp only [ZCS]); exact rfl); ((try simp only [LL]); exact rfl))
    | ((with_reducible apply ev_fieldAddr); exact rfl; exact rfl; exact rfl; exact rfl; ((try simp only [NG]); exact rfl))
    | ((with_reducible apply ev_buildSlice); exact rfl; exact rfl; ((simp only [ZCS]); exact rfl); exact rfl; ((try simp only [LL]); exact rfl))
    | ((with_reducible apply ev_indexAddr); exact rfl; exact rfl; exact rfl; (first | exact Nat.le_of_ble_eq_true rfl | assumption | omega); ((try simp only [LL]); exact rfl))
    | ((with_reducible apply ev_extract); exact rfl)
    | ((with_reducible apply ev_field); exact rfl; exact rfl; exact rfl; exact rfl; exact rfl)
    | ((with_reducible apply ev_condT); exact rfl)
    | ((with_reducible apply ev_condF); exact rfl)
    | ((with_reducible apply ev_test); exact veq_refl _ _ rfl)
    | ((with_reducible apply ev_ko); exact rfl)); try simp only [NB]))
  exact ev_ret ⟨rfl, rfl⟩
end Go.Proofs.YtiedaccgagnofaaGreat
