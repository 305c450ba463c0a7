/- What a call comes to: steps through calls in the K shape. -/
import Derived.Test.YtiedaccgagnofaaGreatKd
namespace Go.Proofs.YtiedaccgagnofaaGreat
open Go.RowKit

/-- A call comes to such a value and such objects. -/
def Ev {α γ : Type} (x : Option (α × γ)) (Q : α → γ → Prop) : Prop := ∃ v H, x = some (v, H) ∧ Q v H

section
variable {β γ α : Type} {Q : β → γ → Prop}
theorem Ev.mono {x : Option (β × γ)} {Q' : β → γ → Prop} (h : Ev x Q) (hq : ∀ v H, Q v H → Q' v H) : Ev x Q' := by
  obtain ⟨v, H, h1, h2⟩ := h; exact ⟨v, H, h1, hq _ _ h2⟩
theorem ev_ret {v : β} {H : γ} (h : Q v H) : Ev (some (v, H)) Q := ⟨v, H, rfl, h⟩
theorem ev_ko {x : Option α} {a : α} {f : α → Option (β × γ)} (h : x = some a) (k : Ev (f a) Q) : Ev (ko x f) Q := by
  subst h; exact k
theorem ev_ko2 {δ ε : Type} {x : Option (δ × ε)} {f : δ → ε → Option (β × γ)} {Q1 : δ → ε → Prop} (h : Ev x Q1) (k : ∀ v H, Q1 v H → Ev (f v H) Q) : Ev (ko2 x f) Q := by
  obtain ⟨v, H, h1, h2⟩ := h; subst h1; exact k _ _ h2
theorem ev_ko2' {δ ε : Type} {x : Option (δ × ε)} {v : δ} {H : ε} {f : δ → ε → Option (β × γ)} (h : x = some (v, H)) (k : Ev (f v H) Q) : Ev (ko2 x f) Q := by
  subst h; exact k
theorem ev_true {a b : Option (β × γ)} (k : Ev a Q) : Ev (kcond (.bool true) a b) Q := k
theorem ev_false {a b : Option (β × γ)} (k : Ev b Q) : Ev (kcond (.bool false) a b) Q := k
theorem ev_cond {c : Bool} {a b : Option (β × γ)} (h1 : c = true → Ev a Q) (h2 : c = false → Ev b Q) : Ev (kcond (.bool c) a b) Q := by
  cases c with
  | true => exact h1 rfl
  | false => exact h2 rfl
theorem ev_condT {c : Value} {a b : Option (β × γ)} (h : c = .bool true) (k : Ev a Q) : Ev (kcond c a b) Q := by subst h; exact k
theorem ev_condF {c : Value} {a b : Option (β × γ)} (h : c = .bool false) (k : Ev b Q) : Ev (kcond c a b) Q := by subst h; exact k
theorem ev_test {c : Bool} {k : Option (β × γ)} (h : c = true) (hk : Ev k Q) : Ev (ktest c k) Q := by subst h; exact hk
theorem ev_l {Q : Value → LH → Prop} {f : FuncId} {n : Nat} {args : List Value} {H : LH} {C : Ctx} {R : Option (Value × LH)} (hL : ∀ r, R = some r → lcall C (n + 1) f args H = some r) (h : Ev R Q) : Ev (lcall C (n + 1) f args H) Q := by
  obtain ⟨v, H', h1, h2⟩ := h; exact ⟨v, H', hL _ h1, h2⟩

/-- Values that are seen to be what they are. -/
def vok : Nat → Value → Bool
  | 0, _ => false
  | n + 1, v => match v with
    | .bool _ => true
    | .int _ _ => true
    | .string _ => true
    | .float _ _ => true
    | .pointer none => true
    | .pointer (some ⟨_, _, none⟩) => true
    | .slice none _ _ => true
    | .slice (some ⟨_, _, none⟩) _ _ => true
    | .map _ => true
    | .nilFunc => true
    | .nilIface => true
    | .func (.func _) x y => x.toList.all (vok n) && y.toList.all (vok n)
    | .iface _ x => vok n x
    | .agg x => x.toList.all (vok n)
    | .tuple x => x.toList.all (vok n)
    | _ => false
theorem veqs_refl {f : Value → Value → Bool} : ∀ (l : List Value), (∀ v, v ∈ l → f v v = true) → veqs f l l = true
  | [], _ => rfl
  | a :: l, h => by
    simp only [veqs, h a (by simp), veqs_refl l fun v hv => h v (by simp [hv]), Bool.and_self]
theorem lbytesEq_refl : ∀ (l : List UInt8), lbytesEq l l = true
  | [] => rfl
  | a :: l => by simp only [lbytesEq, lbytesEq_refl l, Bool.and_true]; simp
theorem veq_refl : ∀ (n : Nat) (v : Value), vok n v = true → veq n v v = true
  | 0, v, h => by cases h
  | n + 1, v, h => by
    have ih := veq_refl n
    have all : ∀ (x : Array Value), x.toList.all (vok n) = true → veqs (veq n) x.toList x.toList = true := fun x hx => veqs_refl _ fun v hv => ih v (List.all_eq_true.1 hx v hv)
    unfold vok at h
    unfold veq
    split at h
    · simp
    · rename_i k x; cases k <;> simp [sameKind]
    · exact lbytesEq_refl _
    · rename_i k x; cases k <;> simp [lfloatEq]
    · rfl
    · simp [laddrEq]
    · simp
    · simp [laddrEq]
    · rename_i m; cases m <;> simp
    · rfl
    · rfl
    · rename_i f x y
      simp only [Bool.and_eq_true] at h
      simp [all x h.1, all y h.2]
    · simp [ih _ h]
    · exact all _ h
    · exact all _ h
    · cases h
/-! ### Objects -/
theorem at_put_same (H : LH) (i : Nat) (o : Option LObj) : (H.put i o).at i = o := by rw [LH.at_put (show (0 : Nat) < 1 by decide), if_pos rfl]
theorem at_put_ne {H : LH} {i j : Nat} {o : Option LObj} (h : j ≠ i) : (H.put i o).at j = H.at j := by rw [LH.at_put (show (0 : Nat) < 1 by decide), if_neg h]
theorem at_new_same (H : LH) (o : LObj) : (H.new o).at H.next = some o := by rw [LH.at_new (show (0 : Nat) < 1 by decide), if_pos rfl]
theorem at_new_ne {H : LH} {j : Nat} {o : LObj} (h : j ≠ H.next) : (H.new o).at j = H.at j := by rw [LH.at_new (show (0 : Nat) < 1 by decide), if_neg h]
theorem at_gap (H : LH) (n j : Nat) : (H.gap n).at j = H.at j := rfl
theorem next_put (H : LH) (i : Nat) (o : Option LObj) : (H.put i o).next = H.next := rfl
theorem next_new (H : LH) (o : LObj) : (H.new o).next = H.next + 1 := rfl
theorem next_gap (H : LH) (n : Nat) : (H.gap n).next = H.next + n := rfl

theorem NX : (∀ (H : LH) i o, (H.put i o).next = H.next) ∧ (∀ (H : LH) o, (H.new o).next = H.next + 1) ∧ (∀ (H : LH) n, (H.gap n).next = H.next + n) := ⟨fun _ _ _ => rfl, fun _ _ => rfl, fun _ _ => rfl⟩
/-- Later objects: what was is as it was, but for some. -/
structure Upd (S : Nat → Prop) (H H' : LH) : Prop where
  next : H.next ≤ H'.next
  at_ : ∀ i, i < H.next → ¬ S i → H'.at i = H.at i
abbrev Ext (H H' : LH) : Prop := Upd (fun _ => False) H H'
theorem Ext.refl (H : LH) : Ext H H := ⟨Nat.le_refl _, fun _ _ _ => rfl⟩
theorem Upd.at {S : Nat → Prop} {H H' : LH} (h : Upd S H H') {i : Nat} (hi : i < H.next) (hs : ¬ S i) : H'.at i = H.at i := h.at_ i hi hs
theorem Ext.at {H H' : LH} (h : Ext H H') {i : Nat} (hi : i < H.next) : H'.at i = H.at i := h.at_ i hi (fun x => x)
theorem Upd.trans {S : Nat → Prop} {H H1 H2 : LH} (h : Upd S H H1) (h' : Upd S H1 H2) : Upd S H H2 :=
  ⟨Nat.le_trans h.next h'.next, fun i hi hs => (h'.at_ i (Nat.lt_of_lt_of_le hi h.next) hs).trans (h.at_ i hi hs)⟩
theorem Upd.mono {S T : Nat → Prop} {H H1 : LH} (h : Upd S H H1) (hst : ∀ i, S i → T i) : Upd T H H1 := ⟨h.next, fun i hi hs => h.at_ i hi fun x => hs (hst i x)⟩
theorem Ext.upd {S : Nat → Prop} {H H1 : LH} (h : Ext H H1) : Upd S H H1 := Upd.mono h fun _ x => False.elim x
theorem Upd.new {S : Nat → Prop} {H H1 : LH} (h : Upd S H H1) (o : LObj) : Upd S H (H1.new o) :=
  ⟨Nat.le_trans h.next (Nat.le_succ _), fun i hi hs => by rw [at_new_ne (Nat.ne_of_lt (Nat.lt_of_lt_of_le hi h.next))]; exact h.at_ i hi hs⟩
theorem Upd.gap {S : Nat → Prop} {H H1 : LH} (h : Upd S H H1) (n : Nat) : Upd S H (H1.gap n) :=
  ⟨Nat.le_trans h.next (Nat.le_add_right _ _), fun i hi hs => h.at_ i hi hs⟩
theorem Upd.put {S : Nat → Prop} {H H1 : LH} (h : Upd S H H1) {i : Nat} (o : Option LObj) (hi : S i ∨ H.next ≤ i) : Upd S H (H1.put i o) :=
  ⟨h.next, fun j hj hs => by
    rw [at_put_ne (fun e => by subst e; rcases hi with hi | hi; exact hs hi; omega)]; exact h.at_ j hj hs⟩

/-! ### Steps on memory -/
/-- Cells put into their places. -/
def bfill (l : Nat → Option (Nat × Nat)) : List Value → List (Nat × Value) → Option (List Value)
  | cells, [] => some cells
  | cells, (i, v) :: rest => match l i with
    | some (off, n) => match Nat.beq v.cells.toList.length n && Nat.ble (off + v.cells.toList.length) cells.length with
      | true => bfill l (splice cells off v.cells.toList) rest
      | false => none
    | none => none
/-- What lists of cells come to, in one. -/
theorem LL : (∀ cs, Value.cells (.agg cs) = cs) ∧ (∀ k n, Value.cells (.int k n) = #[.int k n]) ∧ (∀ b, Value.cells (.bool b) = #[.bool b]) ∧ (∀ k n, Value.cells (.float k n) = #[.float k n]) ∧ (∀ x, Value.cells (.string x) = #[.string x]) ∧ (∀ p, Value.cells (.pointer p) = #[.pointer p])
    ∧ (∀ p n c, Value.cells (.slice p n c) = #[.slice p n c]) ∧ (∀ m, Value.cells (.map m) = #[.map m]) ∧ (Value.cells .nilFunc = #[.nilFunc]) ∧ (∀ g x y, Value.cells (.func g x y) = #[.func g x y]) ∧ (Value.cells .nilIface = #[.nilIface]) ∧ (∀ t x, Value.cells (.iface t x) = #[.iface t x])
    ∧ (∀ c off vs, splice c off vs = c.take off ++ vs ++ c.drop (off + vs.length)) ∧ (∀ l cells, bfill l cells [] = some cells)
    ∧ (∀ l cells i v rest, bfill l cells ((i, v) :: rest) = match l i with
      | some (off, n) => match Nat.beq v.cells.toList.length n && Nat.ble (off + v.cells.toList.length) cells.length with
        | true => bfill l (splice cells off v.cells.toList) rest
        | false => none
      | none => none)
    ∧ (∀ l : List Value, l.toArray.toList = l) ∧ (∀ (a : Value) l n, (a :: l).take (n + 1) = a :: l.take n) ∧ (∀ l : List Value, l.take 0 = []) ∧ (∀ (a : Value) l n, (a :: l).drop (n + 1) = l.drop n) ∧ (∀ l : List Value, l.drop 0 = l)
    ∧ (∀ (a : Value) l m, (a :: l) ++ m = a :: (l ++ m)) ∧ (∀ l : List Value, [] ++ l = l) ∧ (∀ l : List Value, l ++ [] = l) ∧ (∀ (a : Value) l, (a :: l).length = l.length + 1) ∧ (([] : List Value).length = 0) ∧ (∀ n, 0 + n = n) ∧ (∀ n, ([] : List Value).drop n = []) ∧ (∀ n, ([] : List Value).take n = [])
    ∧ (∀ (a : Nat × Nat) l, (a :: l)[0]? = some a) ∧ (∀ (a : Nat × Nat) l i, (a :: l)[i + 1]? = l[i]?) ∧ (∀ (a : Value) n, List.replicate (n + 1) a = a :: List.replicate n a) ∧ (∀ a : Value, List.replicate 0 a = []) ∧ (∀ n, 0 * n = 0) ∧ (∀ n, n * 1 = n) ∧ (∀ n, 1 * n = n) ∧ (∀ n, n + 0 = n) := by
  refine ⟨fun _ => rfl, fun _ _ => rfl, fun _ => rfl, fun _ _ => rfl, fun _ => rfl, fun _ => rfl, fun _ _ _ => rfl, fun _ => rfl, rfl, fun _ _ _ => rfl, rfl, fun _ _ => rfl, fun _ _ _ => rfl, fun _ _ => rfl, fun _ _ _ _ _ => rfl, fun _ => rfl, fun _ _ _ => rfl, fun _ => rfl, fun _ _ _ => rfl, fun _ => rfl, fun _ _ _ => rfl, fun _ => rfl, fun l => List.append_nil l, fun _ _ => rfl, rfl, fun n => Nat.zero_add n, fun n => List.drop_nil, fun n => List.take_nil, fun _ _ => rfl, fun _ _ _ => rfl, fun _ _ => rfl, fun _ => rfl, fun n => Nat.zero_mul n, fun n => Nat.mul_one n, fun n => Nat.one_mul n, fun _ => rfl⟩
theorem NB : ((!false) = true) ∧ ((!true) = false) ∧ (∀ n : Nat, 0 + n = n) := ⟨rfl, rfl, Nat.zero_add⟩
theorem NG : (∀ n : Nat, 0 + n = n) ∧ (∀ n : Nat, n + 0 = n) ∧ (∀ (a : Field) l (h : 0 < (a :: l).length), (a :: l)[0] = a) ∧ (∀ (a : Field) l i (h : i + 1 < (a :: l).length), (a :: l)[i + 1] = l[i]'(Nat.lt_of_succ_lt_succ h)) ∧ (∀ (l : List Field) i (h : i < l.toArray.size), l.toArray[i] = l[i]'(by simpa using h)) :=
  ⟨Nat.zero_add, fun _ => rfl, fun _ _ _ => rfl, fun _ _ _ _ => rfl, fun _ _ _ => rfl⟩
theorem fold_splice (off : Nat) : ∀ (xs : List Value) (k : Nat) (cs : Array Value), off + k + xs.length ≤ cs.size →
    ((xs.zipIdx k).foldl (fun (cs : Array Value) (p : Value × Nat) => cs.setIfInBounds (off + p.2) p.1) cs).toList = cs.toList.take (off + k) ++ xs ++ cs.toList.drop (off + k + xs.length)
  | [], k, cs, _ => by simp
  | x :: xs, k, cs, h => by
    simp only [List.zipIdx_cons, List.foldl_cons]
    simp only [List.length_cons] at h
    rw [fold_splice off xs (k + 1) _ (by simp; omega)]
    simp only [Array.toList_setIfInBounds, List.length_cons]
    have h1 : (cs.toList.set (off + k) x).take (off + (k + 1)) = cs.toList.take (off + k) ++ [x] := by
      rw [show off + (k + 1) = off + k + 1 by omega, List.take_succ_eq_append_getElem (by simp; omega)]
      rw [List.take_set_of_le (Nat.le_refl _)]
      simp
    have h2 : (cs.toList.set (off + k) x).drop (off + (k + 1) + xs.length) = cs.toList.drop (off + k + (xs.length + 1)) := by
      rw [List.drop_set_of_lt (by omega)]
      congr 1; omega
    rw [h1, h2]
    simp
theorem bfill_ok (l : Nat → Option (Nat × Nat)) : ∀ (parts : List (Nat × Value)) (cells : Array Value) (cs : List Value), bfill l cells.toList parts = some cs → Instr.fill l cells parts = some cs.toArray
  | [], cells, cs, h => by simp only [bfill] at h; injection h with h; subst h; simp [Instr.fill]
  | (i, v) :: rest, cells, cs, h => by
    simp only [bfill] at h
    simp only [Instr.fill]
    split at h
    · rename_i off n hl
      split at h
      · rename_i hb
        simp only [Bool.and_eq_true] at hb
        have h1 := beq_t hb.1
        have h2 := Nat.le_of_ble_eq_true hb.2
        simp only [Array.length_toList] at h1 h2
        rw [hl]
        simp only
        rw [if_neg (by simp [h1]; omega)]
        refine bfill_ok l rest _ cs ?_
        rw [← h]
        congr 1
        have := fold_splice off v.cells.toList 0 cells (by simp; omega)
        unfold splice
        simp only [Nat.add_zero] at this
        rw [← this]
        congr 1
        rw [← Array.foldl_toList]
        congr 1
        simp [Array.toList_zipIdx]
      · cases h
    · cases h
theorem ev_new {H : LH} {e : TypeId} {v : Value} {c : List Value} {f : Value → LH → Option (β × γ)} (hc : v.cells.toList = c) (k : Ev (f (.pointer (some ⟨H.next, 0, none⟩)) (H.new (.cells c e 1))) Q) : Ev (ko2 (lnew H e v) f) Q := by
  subst hc; exact k
theorem ev_alloc {C : Tab} {H : LH} {e n b : Nat} {z : Value} {c : List Value} {f : Value → LH → Option (β × γ)} (hi : C.info e = some (z, n, b)) (hc : z.cells.toList = c) (k : Ev (f (.pointer (some ⟨H.next, 0, none⟩)) (H.new (.cells c e 1))) Q) : Ev (ko2 (lalloc C H e) f) Q := by
  unfold lalloc; rw [hi]; subst hc; exact k
theorem ev_load {C : Tab} {H : LH} {t id off s : Nat} {e : TypeId} {d : TypeDesc} {c : List Value} {v : Value} {f : Value → Option (β × γ)} (hd : C.desc t = some d) (ha : isAggD d = false) (h : H.at id = some (.cells c e s)) (hv : c[off]? = some v) (k : Ev (f v) Q) :
    Ev (ko (lload C H t (.pointer (some ⟨id, off, none⟩))) f) Q := by
  refine ev_ko ?_ k
  unfold lload
  simp only [h, hd, ha, hv]
theorem ev_loads {C : Tab} {H : LH} {t id off s n b : Nat} {e : TypeId} {d : TypeDesc} {z : Value} {c vs : List Value} {f : Value → Option (β × γ)} (hd : C.desc t = some d) (ha : isAggD d = true) (hi : C.info t = some (z, n, b)) (h : H.at id = some (.cells c e s)) (hl : off + n ≤ c.length) (hv : (c.drop off).take n = vs) (k : Ev (f (.agg vs.toArray)) Q) :
    Ev (ko (lload C H t (.pointer (some ⟨id, off, none⟩))) f) Q := by
  subst hv
  refine ev_ko ?_ k
  unfold lload
  simp only [h, hd, ha, hi, Nat.ble_eq_true_of_le hl]
theorem ev_store {C : Tab} {H : LH} {t id off s n b : Nat} {e : TypeId} {z v : Value} {c vc c' : List Value} {f : LH → Option (β × γ)} (hi : C.info t = some (z, n, b)) (h : H.at id = some (.cells c e s)) (hvc : v.cells.toList = vc) (hn : vc.length = n) (hl : off + n ≤ c.length) (hs : vc.all single = true) (hc : splice c off vc = c') (k : Ev (f (H.put id (some (.cells c' e s)))) Q) :
    Ev (ko (lstore C H t (.pointer (some ⟨id, off, none⟩)) v) f) Q := by
  subst hvc; subst hc
  refine ev_ko ?_ k
  unfold lstore
  have h1 : Nat.beq v.cells.size n = true := by rw [← hn]; simp
  simp only [h, hi, h1, Nat.ble_eq_true_of_le hl, hs]
  rfl
theorem ev_build {C : Tab} {t n b : Nat} {z : Value} {fs : Array Field} {l : List (Nat × Nat)} {zc cs : List Value} {parts : List (Nat × Value)} {f : Value → Option (β × γ)} (hi : C.info t = some (z, n, b)) (hd : C.desc t = some (.struct fs)) (hp : lplaces C fs.toList = some l) (hz : z.cells.toList = zc) (hf : bfill (l[·]?) zc parts = some cs) (k : Ev (f (.agg cs.toArray)) Q) :
    Ev (ko (lbuild C t parts) f) Q := by
  subst hz
  refine ev_ko ?_ k
  unfold lbuild
  simp only [hi, hd, hp, bfill_ok _ _ _ _ hf]
theorem ev_fieldAddr {C : Tab} {st id off f n b o : Nat} {fs : Array Field} {fl : Field} {z : Value} {g : Value → Option (β × γ)} (hd : C.desc st = some (.struct fs)) (hf : fs[f]? = some fl) (hi : C.info fl.type = some (z, n, b)) (hn : Nat.beq n 0 = false) (ho : off + fl.offset = o) (k : Ev (g (.pointer (some ⟨id, o, none⟩))) Q) :
    Ev (ko (lfieldAddr C st (.pointer (some ⟨id, off, none⟩)) f) g) Q := by
  subst ho
  refine ev_ko ?_ k
  unfold lfieldAddr
  simp only [hd, hf, hi, hn]
theorem ev_extract {vs : Array Value} {i : Nat} {v : Value} {f : Value → Option (β × γ)} (h : vs.toList[i]? = some v) (k : Ev (f v) Q) : Ev (ko (lextract (.tuple vs) i) f) Q :=
  ev_ko (show vs[i]? = some v by rw [← Array.getElem?_toList]; exact h) k
theorem ev_field {C : Tab} {t i : Nat} {cs : Array Value} {fs : Array Field} {fl : Field} {d : TypeDesc} {v : Value} {f : Value → Option (β × γ)} (hd : C.desc t = some (.struct fs)) (hf : fs[i]? = some fl) (hd2 : C.desc fl.type = some d) (ha : isAggD d = false) (h : cs.toList[fl.offset]? = some v) (k : Ev (f v) Q) : Ev (ko (lfield C t (.agg cs) i) f) Q := by
  refine ev_ko ?_ k
  unfold lfield lpart
  simp only [hd, hf, hd2, ha]
  rw [← Array.getElem?_toList]; exact h
theorem zero_row (z' : Value) (len : Nat) : ((Array.range (len * 1)).map (fun i => (#[z'] : Array Value)[i % (#[z'] : Array Value).size]!)).toList = List.replicate len z' := by
  apply List.ext_getElem
  · simp
  · intro i h1 h2
    simp [Nat.mod_one]
theorem ev_buildSlice {C : Tab} {H : LH} {t e b len : Nat} {z z' : Value} {cs : List Value} {parts : List (Nat × Value)} {f : Value → LH → Option (β × γ)} (hd : C.desc t = some (.slice e)) (hi : C.info e = some (z, 1, b)) (hz : z.cells.toList = [z']) (hl : (Nat.ble (len * 1) 65536 && Nat.blt 0 (len * 1)) = true) (hf : bfill (fun i => some (i * 1, 1)) (List.replicate len z') parts = some cs) (k : Ev (f (.slice (some ⟨H.next, 0, none⟩) len len) (H.new (.cells cs e 1))) Q) :
    Ev (ko2 (lbuildSlice C H t len parts) f) Q := by
  have hz' : z.cells = #[z'] := Array.toList_inj.1 hz
  refine ev_ko2' ?_ k
  unfold lbuildSlice
  have h1 := bfill_ok (fun i => some (i * 1, 1)) parts ((Array.range (len * 1)).map (fun i => (#[z'] : Array Value)[i % (#[z'] : Array Value).size]!)) cs (by rw [zero_row]; exact hf)
  simp only [hd, hi, hz', h1]
  rw [show (Nat.ble (len * 1) 65536 && Nat.blt 0 (len * 1) && Nat.blt 0 1) = true by rw [hl]; rfl]
/-! ### Places in slices -/
theorem ev_indexAddr {C : Tab} {t e id off len cap s b j o : Nat} {k : IntKind} {n : Int} {z : Value} {f : Value → Option (β × γ)} (hd : C.desc t = some (.slice e)) (hi : C.info e = some (z, s, b)) (hj : n = (j : Int)) (hl : j < len) (ho : off + j * s = o)
    (K : Ev (f (.pointer (some ⟨id, o, none⟩))) Q) : Ev (ko (ifFlat (.int k n) (lindexAddr C t (.slice (some ⟨id, off, none⟩) len cap) (.int k n))) f) Q := by
  subst hj; subst ho
  refine ev_ko ?_ K
  have h1 : (decide ((0 : Int) ≤ (j : Int)) && decide ((j : Int) < (len : Int))) = true := by simp; exact hl
  simp only [ifFlat, flat, lindexAddr, hd, hi, h1, Int.toNat_natCast]
/-- A deferred call comes to such objects. -/
def EvD (x : Option LH) (Q : LH → Prop) : Prop := ∃ H, x = some H ∧ Q H
theorem evd_l {f : FuncId} {n : Nat} {args : List Value} {H : LH} {C : Ctx} {R : Option (Value × LH)} {Q : LH → Prop} (hL : ∀ r, R = some r → ldcall C (n + 1) f args H = some r.2) (h : Ev R fun _ H => Q H) : EvD (ldcall C (n + 1) f args H) Q := by
  obtain ⟨v, H', h1, h2⟩ := h; exact ⟨H', hL _ h1, h2⟩
theorem ev_defer {C : Ctx} {dcall : LDCall} {g : FuncId} {captured args : Array Value} {fn : Func} {H : LH} {Q1 : LH → Prop} {f : LH → Option (β × γ)} (h1 : C.ext g = none) (h2 : C.fn g = some fn) (h : EvD (dcall g (args.toList ++ captured.toList) H) Q1) (k : ∀ H', Q1 H' → Ev (f H') Q) :
    Ev (kdefer1 C dcall ⟨.fn (.func g) captured, args⟩ H f) Q := by
  obtain ⟨H', e1, e2⟩ := h
  unfold kdefer1
  simp only [h1, h2, e1]
  exact k _ e2
end
end Go.Proofs.YtiedaccgagnofaaGreat
