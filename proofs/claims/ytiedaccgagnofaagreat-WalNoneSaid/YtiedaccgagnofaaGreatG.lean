/- The second run's append. -/
import Derived.Test.YtiedaccgagnofaaGreatF
namespace Go.Proofs.YtiedaccgagnofaaGreat
open Go.RowKit

section
variable {P : Program} {C : Tab} {R : Ren} {w0 : Fr} {w : World} {H : LH}

/-- append: onto nil, into what room there is known to be, or onto a new row; the old one is given up where it may be the same memory. -/
noncomputable def lappend (C : Tab) (H : LH) (t t2 : TypeId) (s x : Value) : Option (Value × LH) :=
  match C.desc t, C.desc t2, llen x with
  | some (.slice e), some d2, some m =>
    match C.info e, (match d2 with | .int _ => false | _ => true) with
    | some (_, size, b), true =>
      match lcells H size m x, Nat.blt 0 size && Nat.ble b 4096 && Nat.ble m 1048576 && Nat.blt 0 1 with
      | some news, true =>
        match news.all single && Nat.beq news.length (m * size) with
        | false => none
        | true =>
        match s with
        | .slice none 0 0 =>
          match Nat.beq m 0 with
          | true => some (.slice none 0 0, H)
          | false => some (.slice (some ⟨H.next, 0, none⟩) m m, H.new (.cells news e size))
        | .slice (some ⟨id, off, none⟩) n cap =>
          match Nat.ble (n + m) cap with
          | true =>
            match Nat.beq m 0 with
            | true => some (.slice (some ⟨id, off, none⟩) n cap, H)
            | false => match H.at id with
              | some (.cells c e' s') =>
                match Nat.ble (off + (n + m) * size) c.length && Nat.blt 0 1 with
                | true => some (.slice (some ⟨id, off, none⟩) (n + m) cap, H.put id (some (.cells (splice c (off + n * size) news) e' s')))
                | false => none
              | _ => none
          | false =>
            match H.at id with
            | some (.cells c e' s') =>
              match Nat.beq s' size && Nat.beq e' e && Nat.ble (off + n * size) c.length && Nat.blt 0 1 && Nat.ble n 1048576, lcells H size n s with
              | true, some olds =>
                match Nat.blt 0 cap && !(Nat.beq (off + cap * size) c.length) with
                | true => some (.slice (some ⟨H.next, 0, none⟩) (n + m) (n + m), H.new (.cells (olds ++ news) e size))
                | false => some (.slice (some ⟨H.next, 0, none⟩) (n + m) (n + m), (H.put id none).new (.cells (olds ++ news) e size))
              | _, _ => none
            | _ => none
        | _ => none
      | _, _ => none
    | _, _ => none
  | _, _, _ => none

theorem drew_rel (h : HRel R w0 H w) : HRel R w0 H w.drew := h.drew

theorem zeroCells_size (z : Array Value) (n : Nat) : (Builtin.zeroCells z n).size = n * z.size := by simp [Builtin.zeroCells]

/-- A new row with room behind it. -/
theorem HRel.row_room (h : HRel R w0 H w) (hm : (0 : Nat) < 1) {c : List Value} {arr : Array Value} (e : TypeId) (s : Nat) (hv : VRels R c arr.toList) (more : Array Value) :
    HRel (R.add H.next ⟨w.heap.size, 0, c.length, c.length + more.size, s⟩) w0 (H.new (.cells c e s)) (w.alloc (.cells (arr ++ more) e)) := by
  have hl := hv.1
  simp at hl
  refine h.new hm rfl fun R' hR _ => .cells (heap_alloc_new w _) (by simp [hl]) rfl (by simp) rfl (Nat.le_refl _) (fun j _ => by simp) fun j v hj => ?_
  obtain ⟨v', h1, h2⟩ := hv.get hj
  have hlt : j < arr.size := by
    rcases Nat.lt_or_ge j arr.size with h | h
    · exact h
    · simp [Array.getElem?_eq_none h] at h1
  exact ⟨v', by rw [Array.getElem?_append_left (by simpa using hlt)]; simpa using h1, h2.mono hR⟩

theorem lcells_spec {size n cap id off : Nat} {l c : List Value} {e : TypeId} {s : Nat} (hat : H.at id = some (.cells c e s)) (hl : lcells H size n (.slice (some ⟨id, off, none⟩) n cap) = some l) (hle : off + n * size ≤ c.length) : l = (c.drop off).take (n * size) ∧ l.length = n * size := by
  unfold lcells at hl
  simp only at hl
  split at hl
  · rename_i e0
    have := beq_t e0
    subst this
    injection hl with hl; subst hl
    simp
  · rw [hat] at hl
    simp only at hl
    split at hl
    · injection hl with hl; subst hl
      exact ⟨rfl, by simp; omega⟩
    · cases hl

theorem cells_list {R : Ren} {w : World} {b : Nat} : ∀ {l : List Value} {o : Nat}, (∀ (j : Nat) (v : Value), l[j]? = some v → ∃ v', w.cell? ⟨b, o + j, none⟩ = some v' ∧ VRel R v v') →
    ∃ ys : List Value, VRels R l ys ∧ ∀ (j : Nat) (v : Value), ys[j]? = some v → w.cell? ((⟨b, o, none⟩ : Addr).add j) = some v
  | [], _, _ => ⟨[], VRels.nil R, fun j v hv => by simp at hv⟩
  | a :: l, o, hold => by
    obtain ⟨v', q3, q4⟩ := hold 0 a rfl
    obtain ⟨ys, q1, q2⟩ := cells_list (l := l) (o := o + 1) (fun j v hj => by
      have := hold (j + 1) v (by simpa using hj)
      rwa [show o + (j + 1) = o + 1 + j by omega] at this)
    refine ⟨v' :: ys, VRels.cons q4 q1, fun j v hv => ?_⟩
    rw [add_off]
    cases j with
    | zero => simp at hv; subst hv; exact q3
    | succ j =>
      have := q2 j v (by simpa using hv)
      rw [add_off] at this
      rwa [show o + (j + 1) = o + 1 + j by omega]

/-- Growing past what is known: in place where there is room, else into a new row. -/
theorem grow_ok (hC : C.Ok P) {t t2 ty e : TypeId} {d2 : TypeDesc} {z : Value} {size b m n cap' id o' : Nat} {p : Place} {c olds news : List Value} {e' : TypeId} {news' : Array Value} {x' : Value}
    (h : HRel R w0 H w) (hd : C.desc t = some (.slice e)) (hd2 : C.desc t2 = some d2) (hd2' : ∀ k, d2 ≠ .int k) (hi : C.info e = some (z, size, b)) (hlen : (Builtin.lenOf x').run P w = .ok m w)
    (hn1 : ∀ w', (∀ a, w'.cell? a = w.cell? a) → (Builtin.firstCells size m x').run P w' = .ok news' w') (hn2 : VRels R news news'.toList) (nlen : news.length = m * size) (hsing : news.all single = true)
    (b2 : b ≤ 4096) (b3 : m ≤ 1048576) (b4 : (0 : Nat) < 1) (b5 : n ≤ 1048576) (hid : (0 : Nat) < 1)
    (hp : R id = some p) (hat : H.at id = some (.cells c e' size)) (he : e' = e) (olen : olds.length = n * size)
    (hold : ∀ (j : Nat) (v : Value), olds[j]? = some v → ∃ v', w.cell? ⟨p.block, o' + j, none⟩ = some v' ∧ VRel R v v')
    (hroom : n + m ≤ cap' → o' + cap' * size ≤ p.top) :
    ∃ R' r' w', (Builtin.append_ #[t, t2] ty #[.slice (some ⟨p.block, o', none⟩) n cap', x']).run P w = .ok r' w' ∧ R.le R' ∧ VRel R' (.slice (some ⟨H.next, 0, none⟩) (n + m) (n + m)) r' ∧ HRel R' w0 ((H.put id none).new (.cells (olds ++ news) e size)) w' := by
  obtain ⟨ie, g1, g2, g3, g4, g5, g6⟩ := hC.info _ _ _ _ hi
  have nlen' : news'.size = m * size := by have := hn2.1; simp at this; omega
  have hf := h.fresh _ (Nat.le_refl _)
  have hadd : (n + m) * size = n * size + m * size := Nat.add_mul _ _ _
  by_cases hin : n + m ≤ cap'
  · have hroom := hroom hin
    have hcs : (n + m) * size ≤ cap' * size := Nat.mul_le_mul_right _ hin
    obtain ⟨_, hh⟩ := h.get hat hp
    cases hh with
    | @cells _ _ _ arr fz hh ht hcl hbb hs hq hfz hr =>
      obtain ⟨arr', k1, k2, k3⟩ := setCells_same p.block news'.toList (o' + n * size) w arr e' fz hh
      obtain ⟨m1, m2, m3, m4⟩ := setCells_misc p.block news'.toList (o' + n * size) w
      have hst := run_storeCells_cells (P := P) p.block (o' + n * size) news'.toList 0 w (fun j hj => by
          simp at hj
          rw [cell_of_row w _ _ _ _ _ hh, Array.getElem?_eq_getElem (by omega)]; rfl)
        (fun j hj => by
          simp at hj
          exact h.free hp hat (by omega))
        (fun v hv => single_oneCell' (hn2.single hsing v hv))
      have hrun := run_app_in t t2 ty e d2 ie (hC.desc _ _ hd) (hC.desc _ _ hd2) hd2' g1 (some ⟨p.block, o', none⟩) n cap' m x' news' w _ hlen (by rw [g3]; exact hn1 w fun _ => rfl) hin
        (by simp only [g3, add_off]; simpa using hst)
      have hA := h.again hid b4 (q := ⟨p.block, o', (n + m) * size, p.top, size⟩) (o' := .cells (olds ++ news) e size) (w' := w.setCells p.block (o' + n * size) news'.toList) hat hp rfl
        (fun b hb => setCells_other _ _ _ _ _ hb) m1 m2 m3 m4 (fun R' hR => by
          subst he
          refine .cells k1 (by show arr'.size = p.top; omega) (by simp [olen, nlen, hadd]) (by show o' + (n + m) * size ≤ p.top; omega) rfl hq hfz fun j v hj => ?_
          show ∃ v', arr'[o' + j]? = some v' ∧ _
          rw [k3]
          rw [List.getElem?_append] at hj
          split at hj
          · rename_i hlt
            rw [if_neg (by omega)]
            obtain ⟨v', q1, q2⟩ := hold j v hj
            rw [cell_of_row w _ _ _ _ _ hh] at q1
            exact ⟨v', q1, q2.mono hR⟩
          · rename_i hge
            obtain ⟨v', q1, q2⟩ := hn2.get hj
            have hjl : j - olds.length < news'.toList.length := by
              rcases Nat.lt_or_ge (j - olds.length) news'.toList.length with h | h
              · exact h
              · rw [List.getElem?_eq_none h] at q1; cases q1
            simp only [Array.length_toList] at hjl
            rw [if_pos (by simp only [Array.length_toList]; omega)]
            exact ⟨v', by rw [← q1]; congr 1; omega, q2.mono hR⟩)
      refine ⟨_, _, _, hrun, Ren.le_add _ hf, ?_, hA⟩
      have := VRel.slice (Ren.add_self R H.next ⟨p.block, o', (n + m) * size, p.top, size⟩) 0 (n + m) (n + m) cap' (Nat.le_refl _) (.inr ⟨by simp, hin, by simpa using hroom⟩)
      simpa using this
  · have hks := h.slice hp hat
    -- the old cells, as a list of memory's
    have hex := cells_list hold
    obtain ⟨olds', q1, q2⟩ := hex
    have ol' : olds'.length = n * size := by rw [← q1.1]; exact olen
    have hfo : (Builtin.firstCells size n (.slice (some ⟨p.block, o', none⟩) n cap')).run P w.drew = .ok olds'.toArray w.drew := by
      have := run_loadCells_list (P := P) w.drew _ olds' (fun j v hj => by simpa using q2 j v hj)
      rw [ol'] at this
      simp [Builtin.firstCells, this]
    have hrun := run_app_out t t2 ty e d2 ie z (hC.desc _ _ hd) (hC.desc _ _ hd2) hd2' g1 g2 (some ⟨p.block, o', none⟩) n cap' m x' olds'.toArray news' w hlen (by rw [g3]; exact hn1 w.drew fun _ => rfl)
      (by rw [g3]; exact hfo) (by omega) (by rw [g4]; have : (n + m) * b ≤ 2097152 * 4096 := Nat.mul_le_mul (by omega) b2; omega) (by omega)
    have hn2' : VRels R (olds ++ news) (olds'.toArray ++ news').toList := by simpa using q1.append hn2
    have hrow := ((drew_rel h).kill (id := id) hid).row_room (H := H.put id none) b4 e size hn2' (Builtin.zeroCells z.cells (grownCap w (n + m) cap' e - (n + m)))
    refine ⟨_, _, _, hrun, Ren.le_add _ hf, ?_, hrow⟩
    have hge := grownCap_ge w (n + m) cap' e
    have hsz := zeroCells_size z.cells (grownCap w (n + m) cap' e - (n + m))
    rw [g5] at hsz
    have ll : (olds ++ news).length = (n + m) * size := by simp [olen, nlen, hadd]
    have := VRel.slice (Ren.add_self R H.next ⟨w.drew.heap.size, 0, (olds ++ news).length, (olds ++ news).length + (Builtin.zeroCells z.cells (grownCap w (n + m) cap' e - (n + m))).size, size⟩) 0 (n + m) (n + m) (grownCap w (n + m) cap' e) (Nat.le_refl _)
      (.inr ⟨by simp only [Nat.zero_add]; exact ll.symm, hge, by
        simp only [Nat.zero_add, ll, hsz]
        rw [← Nat.add_mul]
        exact Nat.mul_le_mul_right _ (by omega)⟩)
    simpa using this

theorem lappend_ok (hC : C.Ok P) {t t2 ty : TypeId} {s s' x x' r : Value} {H' : LH} (h : HRel R w0 H w) (hs : VRel R s s') (hx : VRel R x x') (hl : lappend C H t t2 s x = some (r, H')) :
    ∃ R' r' w', (Builtin.append_ #[t, t2] ty #[s', x']).run P w = .ok r' w' ∧ R.le R' ∧ VRel R' r r' ∧ HRel R' w0 H' w' := by
  unfold lappend at hl
  split at hl
  · rename_i e d2 m hd hd2 hm
    split at hl
    · rename_i z size b hi hint
      have hd2' : ∀ k, d2 ≠ .int k := fun k e => by subst e; simp at hint
      obtain ⟨ie, g1, g2, g3, g4, g5, g6⟩ := hC.info _ _ _ _ hi
      split at hl
      · rename_i news hnews hb
        simp only [Bool.and_eq_true] at hb
        obtain ⟨⟨⟨b1, b2⟩, b3⟩, b4⟩ := hb
        have b1 : 0 < size := Nat.le_of_ble_eq_true b1
        have b2 := Nat.le_of_ble_eq_true b2
        have b3 := Nat.le_of_ble_eq_true b3
        have b4 : (0 : Nat) < 1 := Nat.le_of_ble_eq_true b4
        split at hl
        · cases hl
        rename_i hsing
        obtain ⟨news', hn1, hn2⟩ := lcells_ok (P := P) h hx ⟨m, hm, Nat.le_refl _⟩ hnews
        have hlen := llen_ok (P := P) hx hm w
        simp only [Bool.and_eq_true] at hsing
        obtain ⟨hsing, nlen⟩ := hsing
        have nlen := beq_t nlen
        have nlen' : news'.size = m * size := by have := hn2.1; simp at this; omega
        split at hl
        · cases hs
          split at hl
          · rename_i hm0
            have hm0 := beq_t hm0
            subst hm0
            injection hl with hl; injection hl with h1 h2; subst h1; subst h2
            refine ⟨R, _, w, run_app_in t t2 ty e d2 ie (hC.desc _ _ hd) (hC.desc _ _ hd2) hd2' g1 none 0 0 0 x' news' w w hlen (by rw [g3]; exact hn1 w fun _ => rfl) (Nat.le_refl _) (by simp), Ren.le_refl _, .nilSlice, h⟩
          · rename_i hm0
            have hm0 := beq_f hm0
            injection hl with hl; injection hl with h1 h2; subst h1; subst h2
            have hrun := run_app_out t t2 ty e d2 ie z (hC.desc _ _ hd) (hC.desc _ _ hd2) hd2' g1 g2 none 0 0 m x' #[] news' w hlen (by rw [g3]; exact hn1 w.drew fun _ => rfl)
              (by simp [Builtin.firstCells]) (by omega) (by rw [g4, Nat.zero_add]; have : m * b ≤ 1048576 * 4096 := Nat.mul_le_mul b3 b2; omega) (by omega)
            simp only [Nat.zero_add, Array.empty_append] at hrun
            have hrow := (drew_rel h).row_room b4 e size hn2 (Builtin.zeroCells z.cells (grownCap w m 0 e - m))
            refine ⟨_, _, _, hrun, Ren.le_add _ (h.fresh _ (Nat.le_refl _)), ?_, hrow⟩
            have hge := grownCap_ge w m 0 e
            have hsz := zeroCells_size z.cells (grownCap w m 0 e - m)
            rw [g5] at hsz
            have := VRel.slice (Ren.add_self R H.next ⟨w.drew.heap.size, 0, news.length, news.length + (Builtin.zeroCells z.cells (grownCap w m 0 e - m)).size, size⟩) 0 m m (grownCap w m 0 e) (Nat.le_refl _)
              (.inr ⟨by simp [nlen], hge, by
                simp only [Nat.zero_add, nlen, hsz]
                rw [← Nat.add_mul]
                exact Nat.mul_le_mul_right _ (by omega)⟩)
            simpa using this
        · rename_i id off n cap
          split at hl
          · rename_i hin
            have hin := Nat.le_of_ble_eq_true hin
            split at hl
            · rename_i hm0
              have hm0 := beq_t hm0
              subst hm0
              injection hl with hl; injection hl with h1 h2; subst h1; subst h2
              have hn0 : news' = #[] := Array.eq_empty_of_size_eq_zero (by simpa using nlen')
              have fin : ∀ (a : Addr) (cap' : Nat), n ≤ cap' → VRel R (.slice (some ⟨id, off, none⟩) n cap) (.slice (some a) n cap') → s' = .slice (some a) n cap' →
                  ∃ R' r' w', (Builtin.append_ #[t, t2] ty #[s', x']).run P w = .ok r' w' ∧ R.le R' ∧ VRel R' (.slice (some ⟨id, off, none⟩) n cap) r' ∧ HRel R' w0 H w' := fun a cap' hcap hv he => by
                subst he
                exact ⟨R, _, w, run_app_in t t2 ty e d2 ie (hC.desc _ _ hd) (hC.desc _ _ hd2) hd2' g1 (some a) n cap' 0 x' news' w w hlen (by rw [g3]; exact hn1 w fun _ => rfl) hcap (by simp [hn0, storeCells]), Ren.le_refl _, hv, h⟩
              cases hs with
              | slice hp _ _ _ cap' hn hc => exact fin _ cap' (by rcases hc with q | q <;> omega) (.slice hp off n cap cap' hn hc) rfl
              | empty hp _ off' cap' hc => exact fin _ cap' (Nat.zero_le _) (.empty hp off off' cap' hc) rfl
            · rename_i hm0
              have hm0 := beq_f hm0
              split at hl
              · rename_i c e' sz hat
                split at hl
                · rename_i hle
                  simp only [Bool.and_eq_true] at hle
                  obtain ⟨hle, hid⟩ := hle
                  have hle := Nat.le_of_ble_eq_true hle
                  have hid : (0 : Nat) < 1 := Nat.le_of_ble_eq_true hid
                  injection hl with hl; injection hl with h1 h2; subst h1; subst h2
                  have hadd : (n + m) * size = n * size + m * size := Nat.add_mul _ _ _
                  cases hs with
                  | @slice _ p hp _ _ _ cap' hn hc =>
                    have hst := h.run_store P hp hat (off + n * size) hn2 (by omega) hsing
                    have hrun := run_app_in t t2 ty e d2 ie (hC.desc _ _ hd) (hC.desc _ _ hd2) hd2' g1 (some ⟨p.block, p.base + off, none⟩) n cap' m x' news' w _ hlen (by rw [g3]; exact hn1 w fun _ => rfl) (by rcases hc with q | q <;> omega)
                      (by simp only [g3, add_off]; rw [Nat.add_assoc]; exact hst)
                    exact ⟨R, _, _, hrun, Ren.le_refl _, .slice hp off (n + m) cap cap' hin hc, h.write hid hp hat (off + n * size) hn2 (by omega)⟩
                  | empty => omega
                · cases hl
              · cases hl
          · rename_i hin
            have hin : ¬ n + m ≤ cap := fun q => by rw [Nat.ble_eq_true_of_le q] at hin; cases hin
            split at hl
            · rename_i c e' sz hat
              split at hl
              · rename_i olds hcond hol
                simp only [Bool.and_eq_true] at hcond
                obtain ⟨⟨⟨⟨c1, c2⟩, c3⟩, c4⟩, c5⟩ := hcond
                have c1 := beq_t c1
                have c2 := beq_t c2
                have c3 := Nat.le_of_ble_eq_true c3
                have c4 : (0 : Nat) < 1 := Nat.le_of_ble_eq_true c4
                have c5 := Nat.le_of_ble_eq_true c5
                subst c1
                obtain ⟨ol1, ol2⟩ := lcells_spec hat hol c3
                have hold : ∀ (p : Place), R id = some p → ∀ (j : Nat) (v : Value), olds[j]? = some v → ∃ v', w.cell? ⟨p.block, p.base + off + j, none⟩ = some v' ∧ VRel R v v' := fun p hp j v hj => by
                  rw [ol1, List.getElem?_take] at hj
                  split at hj
                  · rw [List.getElem?_drop] at hj
                    rw [Nat.add_assoc]
                    exact h.cell hp hat hj
                  · cases hj
                split at hl
                · rename_i htight
                  simp only [Bool.and_eq_true, Bool.not_eq_true'] at htight
                  obtain ⟨t1, t2'⟩ := htight
                  have t1 : 0 < cap := Nat.le_of_ble_eq_true t1
                  have t2' := beq_f t2'
                  injection hl with hl; injection hl with h1 h2; subst h1; subst h2
                  cases hs with
                  | @slice _ p hp _ _ _ cap' hn hc =>
                    obtain ⟨hl1, hl2, hl3⟩ := h.len hp hat
                    have hcc : cap' = cap := by
                      rcases hc with q | ⟨q, _⟩
                      · exact q
                      · rw [hl3] at q; omega
                    subst hcc
                    obtain ⟨olds', q1, q2⟩ := lcells_ok (P := P) h (VRel.slice hp off n cap' cap' hn (.inl rfl)) ⟨n, rfl, Nat.le_refl _⟩ hol
                    have hrun := run_app_out t t2 ty e d2 ie z (hC.desc _ _ hd) (hC.desc _ _ hd2) hd2' g1 g2 (some ⟨p.block, p.base + off, none⟩) n cap' m x' olds' news' w hlen (by rw [g3]; exact hn1 w.drew fun _ => rfl)
                      (by rw [g3]; exact q1 w.drew fun _ => rfl) (by omega) (by rw [g4]; have : (n + m) * b ≤ 2097152 * 4096 := Nat.mul_le_mul (by omega) b2; omega) (by omega)
                    have hn2' : VRels R (olds ++ news) (olds' ++ news').toList := by simpa using q2.append hn2
                    have hrow := (drew_rel h).row_room b4 e sz hn2' (Builtin.zeroCells z.cells (grownCap w (n + m) cap' e - (n + m)))
                    refine ⟨_, _, _, hrun, Ren.le_add _ (h.fresh _ (Nat.le_refl _)), ?_, hrow⟩
                    have hge := grownCap_ge w (n + m) cap' e
                    have hsz := zeroCells_size z.cells (grownCap w (n + m) cap' e - (n + m))
                    rw [g5] at hsz
                    have ll : (olds ++ news).length = (n + m) * sz := by simp [ol2, nlen, Nat.add_mul]
                    have := VRel.slice (Ren.add_self R H.next ⟨w.drew.heap.size, 0, (olds ++ news).length, (olds ++ news).length + (Builtin.zeroCells z.cells (grownCap w (n + m) cap' e - (n + m))).size, sz⟩) 0 (n + m) (n + m) (grownCap w (n + m) cap' e) (Nat.le_refl _)
                      (.inr ⟨by simp only [Nat.zero_add]; exact ll.symm, hge, by
                        simp only [Nat.zero_add, ll, hsz]
                        rw [← Nat.add_mul]
                        exact Nat.mul_le_mul_right _ (by omega)⟩)
                    simpa using this
                  | empty => omega
                · injection hl with hl; injection hl with h1 h2; subst h1; subst h2
                  cases hs with
                  | @slice _ p hp _ _ _ cap' hn hc =>
                    exact grow_ok hC h hd hd2 hd2' hi hlen hn1 hn2 nlen hsing b2 b3 b4 c5 c4 hp hat c2 ol2 (hold p hp) (fun q => by
                      rcases hc with hc | ⟨_, _, hc⟩
                      · omega
                      · rw [(h.len hp hat).2.2] at hc; exact hc)
                  | @empty _ p hp _ off' cap' hc =>
                    have hol0 : olds = [] := List.eq_nil_of_length_eq_zero (by simpa using ol2)
                    subst hol0
                    exact grow_ok hC h hd hd2 hd2' hi hlen hn1 hn2 nlen hsing b2 b3 b4 c5 c4 hp hat c2 (by simp) (fun j v hj => by simp at hj) (fun q => by
                      rcases hc with hc | hc
                      · omega
                      · rw [(h.len hp hat).2.2] at hc; exact hc)
              · cases hl
            · cases hl
        · cases hl
      · cases hl
    · cases hl
  · cases hl
end
end Go.Proofs.YtiedaccgagnofaaGreat
