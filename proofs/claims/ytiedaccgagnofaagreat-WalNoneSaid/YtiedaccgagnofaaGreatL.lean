/- What the program's own operations come to beside those of the second run: bytes and numbers. -/
import Derived.Test.YtiedaccgagnofaaGreatK
import Derived.Laws.BytesArg
namespace Go.Proofs.YtiedaccgagnofaaGreat
open Go.RowKit

section
variable {P : Program} {C : Tab} {R : Ren} {w0 : Fr} {w : World} {H : LH}

theorem lbytes_ok : ∀ (l : List Value) (b : List UInt8), lbytes l = some b → ∃ ns : List Int, l = ns.map (Value.int .u8) ∧ b = ns.map fun n => UInt8.ofNat n.toNat
  | [], b, h => by simp [lbytes] at h; subst h; exact ⟨[], rfl, rfl⟩
  | v :: l, b, h => by
    have hv : ∃ n, v = .int .u8 n := by
      cases v with
      | int k n => cases k <;> first | exact ⟨n, rfl⟩ | (simp [lbytes] at h)
      | _ => simp [lbytes] at h
    obtain ⟨n, rfl⟩ := hv
    simp only [lbytes] at h
    split at h
    · rename_i r hr
      injection h with h; subst h
      obtain ⟨ns, h1, h2⟩ := lbytes_ok l r hr
      exact ⟨n :: ns, by simp [h1], by simp [h2, Nat.toUInt8]⟩
    · cases h

theorem ltoString_ok (hC : C.Ok P) {src dst : TypeId} {x x' r : Value} (h : HRel R w0 H w) (hx : VRel R x x') (hl : ltoString C H src dst x = some r) : (convert src dst x').run P w = .ok r w ∧ flat r = true := by
  unfold ltoString at hl
  split at hl
  · rename_i e n hs hd hn
    split at hl
    · rename_i he
      split at hl
      · rename_i a m c
        split at hl
        · rename_i l hcl
          split at hl
          · rename_i b hb
            injection hl with hl; subst hl
            obtain ⟨l', h1, h2⟩ := lcells_ok (P := P) h hx ⟨n, hn, Nat.le_refl _⟩ hcl
            obtain ⟨ns, e1, e2⟩ := lbytes_ok l b hb
            have hll : l'.toList = l := by
              subst e1
              refine List.ext_getElem? fun i => ?_
              by_cases hi : i < (ns.map (Value.int .u8)).length
              · have q1 : (ns.map (Value.int .u8))[i]? = some (.int .u8 (ns[i]'(by simpa using hi))) := by simp [List.getElem?_eq_getElem (show i < ns.length by simpa using hi)]
                obtain ⟨v', q2, q3⟩ := h2.get q1
                rw [q1, q2]
                cases q3
                rfl
              · have hl2 := h2.1
                rw [List.getElem?_eq_none (by omega), List.getElem?_eq_none (by omega)]
            refine ⟨?_, rfl⟩
            have hu := run_underlying (hC.desc _ _ hs) w
            have hsrc := hC.desc _ _ hs
            have hdst := hC.desc _ _ hd
            have hel := hC.desc _ _ he
            have hc0 := h1 w (fun _ => rfl)
            simp [llen] at hn
            subst hn
            have hconv : ∀ (A : Option Addr) (k cp : Nat), (convert src dst (.slice A k cp)).run P w = (Conv.bytesToString (.slice A k cp)).run P w := fun A k cp => by
              rw [run_convert_bytes_string w src dst e A k cp hsrc hel hdst]
            cases hx with
            | nilSlice =>
              rw [hconv]
              simp [lcells] at hcl
              subst hcl
              simp [lbytes] at hb
              subst hb
              simp [Conv.bytesToString]
              rfl
            | @slice _ p hp off _ _ cap' hn hc =>
              rw [hconv]
              rw [run_bytesToString w _ m cap' ns (by
                have : (Builtin.firstCells 1 m (.slice (some ⟨p.block, p.base + off, none⟩) m cap')).run P w = .ok l' w := hc0
                simp only [Builtin.firstCells, Nat.mul_one] at this
                rw [this, ← e1, ← hll]), foldl_push_bytes]
              rw [e2]
              simp [ByteArray.empty, ByteArray.emptyWithCapacity]
              rfl
            | @empty _ p hp off off' cap' hc =>
              rw [hconv]
              rw [run_bytesToString w _ 0 cap' ns (by
                have : (Builtin.firstCells 1 0 (.slice (some ⟨p.block, off', none⟩) 0 cap')).run P w = .ok l' w := hc0
                simp only [Builtin.firstCells, Nat.mul_one] at this
                rw [this, ← e1, ← hll]), foldl_push_bytes]
              rw [e2]
              simp [ByteArray.empty, ByteArray.emptyWithCapacity]
              rfl
          · cases hl
        · cases hl
      · cases hl
    · cases hl
  · cases hl

/-- A mark behind a row turns nothing. -/
theorem HRel.mark (h : HRel R w0 H w) {id : Nat} {p : Place} (hp : R id = some p) {c : List Value} {e : TypeId} {s : Nat} (ho : H.at id = some (.cells c e s)) {arr : Array Value} {fz : Nat × Nat} (hh : w.heap[p.block]? = some (.cells arr e fz)) :
    HRel R w0 H (w.freeze ⟨p.block, arr.size, none⟩ 1) := by
  have hk : ∀ b, b ≠ p.block → (w.freeze ⟨p.block, arr.size, none⟩ 1).heap[b]? = w.heap[b]? := fun b hb => by
    simp only [World.freeze, if_neg (show ¬ (1 : Nat) = 0 by decide), Array.getElem?_modify]
    rw [if_neg (Ne.symm hb)]
  have hsame : (w.freeze ⟨p.block, arr.size, none⟩ 1).heap[p.block]? = some (.cells arr e (if fz.1 == fz.2 then (arr.size, arr.size + 1) else (min fz.1 arr.size, max fz.2 (arr.size + 1)))) := by
    simp only [World.freeze, if_neg (show ¬ (1 : Nat) = 0 by decide), Array.getElem?_modify, if_true, hh]
    rfl
  have hz : (w.freeze ⟨p.block, arr.size, none⟩ 1).heap.size = w.heap.size := by simp [World.freeze]
  obtain ⟨hb, hold⟩ := h.get ho hp
  have hnew : Holds R (w.freeze ⟨p.block, arr.size, none⟩ 1) p (.cells c e s) := by
    cases hold with
    | cells hh' ht hl hbb hs hq hf hr =>
      rw [hh] at hh'; injection hh' with hh'; injection hh' with h1 h2 h3; subst h1; subst h3
      refine .cells hsame ht hl hbb hs (by split <;> simp <;> omega) (fun j hj => ?_) hr
      split
      · simp; omega
      · rename_i hne
        have hlo : arr.size ≤ fz.1 := by
          rcases Nat.lt_or_ge fz.1 arr.size with q | q
          · have := hf fz.1 (by omega)
            simp at this hne
            omega
          · exact q
        simp
        intro q
        omega
  refine ⟨fun j o hj => ?_, h.one, h.fresh, ⟨h.below.os, h.below.tape, h.below.output, by rw [hz]; exact h.below.size, fun k hk' => (hk k (fun q => hb (q ▸ hk'))).trans (h.below.block k hk')⟩, h.holes⟩
  by_cases e0 : j = id
  · subst e0
    rw [ho] at hj; injection hj with hj; subst hj
    exact ⟨p, hp, hb, hnew⟩
  · obtain ⟨q, h1, h2, h3⟩ := h.live j o hj
    exact ⟨q, h1, h2, h3.keep (Ren.le_refl R) (hk _ fun q0 => e0 (h.one j id _ _ _ _ hj ho h1 hp q0))⟩

theorem lsame_ok (hC : C.Ok P) {t e : TypeId} {a : Addr} {n cap : Nat} {x' : Value} {c : List Value} {e' : TypeId} {s : Nat} (h : HRel R w0 H w) (hx : VRel R (.slice (some a) n cap) x') (hd : C.desc t = some (.slice e)) (he : C.desc e = some (.int .u8)) (hat : H.at a.block = some (.cells c e' s)) :
    ∃ w', (convert t t x').run P w = .ok x' w' ∧ HRel R w0 H w' := by
  have hdd := hC.desc _ _ hd
  have hee := hC.desc _ _ he
  have hgo : ∀ (b : Nat) (o : Nat) (m k : Nat) (arr : Array Value) (fz : Nat × Nat), w.heap[b]? = some (.cells arr e' fz) → (convert t t (.slice (some ⟨b, o, none⟩) m k)).run P w = .ok (.slice (some ⟨b, o, none⟩) m k) (w.freeze ⟨b, arr.size, none⟩ 1) := fun b o m k arr fz hb => by
    have hsh : w.shape? b = some (e', arr.size) := by unfold World.shape?; rw [hb]
    simp [convert, run_underlying hdd, run_underlying hee, markStringish, hsh]
  cases hx with
  | @slice id p hp off _ _ cap' hn hc =>
    obtain ⟨_, hh⟩ := h.get hat hp
    cases hh with
    | cells hh ht hl hbb hs hq hf hr => exact ⟨_, hgo _ _ _ _ _ _ hh, h.mark hp hat hh⟩
  | @empty id p hp off off' cap' hc =>
    obtain ⟨_, hh⟩ := h.get hat hp
    cases hh with
    | cells hh ht hl hbb hs hq hf hr => exact ⟨_, hgo _ _ _ _ _ _ hh, h.mark hp hat hh⟩

theorem lsliceArr_ok (hC : C.Ok P) {t : TypeId} {x x' r : Value} {lo hi mx : Option Value} (hx : VRel R x x') (hl : lsliceArr C t x lo hi mx = some r) :
    ∃ r', (Instr.sliceAt t x' lo hi mx).run P w = .ok r' w ∧ VRel R r r' := by
  unfold lsliceArr at hl
  split at hl
  · rename_i n e id off hd
    have hdd := hC.desc _ _ hd
    split at hl
    · rename_i z s b hh hi' hh'
      split at hl
      · rename_i l hlo hle
        have hle := Nat.le_of_ble_eq_true hle
        cases hx with
        | @ptr _ p hp _ =>
          have hb : (Instr.sliceBounds false n n lo hi none).run P w = .ok (l, hh, n) w := by
            unfold Instr.sliceBounds
            cases hi with
            | none =>
              simp only [lbound, Option.some.injEq] at hh'
              subst hh'
              cases lo with
              | none => simp only [lbound, Option.some.injEq] at hlo; subst hlo; simp
              | some lo => simp [(lbound_run (P := P) (code := .sliceB) hlo w).1]
            | some hi =>
              have g := (lbound_run (P := P) (code := .sliceAlen) hh' w).1
              cases lo with
              | none => simp only [lbound, Option.some.injEq] at hlo; subst hlo; simp [g]
              | some lo => simp [g, (lbound_run (P := P) (code := .sliceB) hlo w).1]
          have hlh := bound_le hlo
          have hrun : (Instr.sliceAt t (.pointer (some ⟨p.block, p.base + off, none⟩)) lo hi none).run P w = .ok (.slice (some (if n = l then ⟨p.block, p.base + off, none⟩ else ⟨p.block, p.base + off + l * s, none⟩)) (hh - l) (n - l)) w := by
            simp only [Instr.sliceAt, Sem.run_bind, run_underlying hdd, Result.andThen_ok, Instr.sureAddr, Sem.run_pure, hb, run_sizeD hC hi']
            by_cases q : n = l
            · simp [q]
            · simp [q, add_off]
          split at hl
          · rename_i q
            have q := beq_t q
            injection hl with hl; subst hl
            refine ⟨_, hrun, ?_⟩
            rw [if_pos q, show hh - l = 0 by omega, show n - l = 0 by omega]
            exact .empty hp off (p.base + off) 0 (.inl rfl)
          · rename_i q
            have q := beq_f q
            injection hl with hl; subst hl
            refine ⟨_, hrun, ?_⟩
            rw [if_neg q, Nat.add_assoc]
            exact .slice hp (off + l * s) (hh - l) (n - l) (n - l) (by omega) (.inl rfl)
      · cases hl
    · cases hl
  · cases hl

/-! ### whole numbers -/
theorem kind_same {k k' : IntKind} (h : sameKind k k' = true) : k = k' := by
  cases k <;> cases k' <;> first | rfl | cases h
theorem lwrap_ok (k : IntKind) (r : Int) : lwrap k r = k.wrap r := by
  cases k with
  | i64 =>
    unfold lwrap
    simp only
    split
    · rename_i h
      simp only [Bool.and_eq_true, decide_eq_true_eq] at h
      exact (IntWalk.i64_in r h).symm
    · rfl
  | u8 => simp [lwrap, IntKind.wrap, IntKind.bits, IntKind.signed]
  | u32 => simp [lwrap, IntKind.wrap, IntKind.bits, IntKind.signed]
  | u64 => simp [lwrap, IntKind.wrap, IntKind.bits, IntKind.signed]
  | _ => rfl
theorem lwide_bits (k : IntKind) : lwide k = k.bits := by cases k <;> rfl
theorem lwhole_eq (k : IntKind) : lwhole k = 2 ^ (if k.signed then k.bits - 1 else k.bits) := by cases k <;> rfl
theorem wrap_small (k : IntKind) (n : Nat) (h : n < lwhole k) : k.wrap (n : Int) = n := by
  cases k <;> simp [lwhole] at h <;> simp [IntKind.wrap, IntKind.bits, IntKind.signed] <;> omega

theorem bits_of (k : IntKind) (n : Nat) (h : n < lwhole k) : (BitVec.ofInt k.bits (n : Int)).toNat = n := by
  rw [BitVec.toNat_ofInt]
  cases k <;> simp [lwhole] at h <;> simp [IntKind.bits] <;> omega
theorem whole_bits (k : IntKind) : lwhole k = 2 ^ (if k.signed then k.bits - 1 else k.bits) := by cases k <;> rfl
theorem land_lt {k : IntKind} {x y : Nat} (h : x < lwhole k) : x &&& y < lwhole k := Nat.lt_of_le_of_lt Nat.and_le_left h
theorem lor_lt {k : IntKind} {x y : Nat} (h : x < lwhole k) (h' : y < lwhole k) : x ||| y < lwhole k := by
  rw [whole_bits] at h h' ⊢; exact Nat.or_lt_two_pow h h'
theorem lxor_lt {k : IntKind} {x y : Nat} (h : x < lwhole k) (h' : y < lwhole k) : x ^^^ y < lwhole k := by
  rw [whole_bits] at h h' ⊢; exact Nat.xor_lt_two_pow h h'

theorem wrap_unsigned (k : IntKind) (m : Nat) (h : lunsigned k = true) : k.wrap (m : Int) = ((m % lwhole k : Nat) : Int) := by
  cases k <;> simp [lunsigned] at h <;> simp [IntKind.wrap, IntKind.bits, IntKind.signed, lwhole]
theorem pow_cast (n : Nat) : ((2 : Int) ^ n) = ((2 ^ n : Nat) : Int) := (Int.natCast_pow 2 n).symm
theorem lshift_ok {op : BinOp} {k k' : IntKind} {a b : Int} {r : Value} (ho : op = .shl ∨ op = .shr) (hl : lshift op k a b = some r) : (Op.shift op k a k' b).run P w = .ok r w ∧ flat r = true := by
  unfold lshift at hl
  split at hl
  · rename_i x n
    split at hl
    · rename_i hn
      have hn := Nat.le_of_ble_eq_true hn
      rw [lwide_bits] at hn
      have hneg : ¬ ((Int.ofNat n : Int) < 0) := by simp
      have hmin : min (Int.ofNat n).toNat k.bits = n := by show min n k.bits = n; omega
      split at hl
      · injection hl with hl; subst hl
        refine ⟨?_, rfl⟩
        have hd : Int.fdiv (Int.ofNat x) ((2 : Int) ^ n) = Int.ofNat (x / 2 ^ n) := by
          rw [pow_cast, Int.fdiv_eq_ediv_of_nonneg _ (Int.natCast_nonneg _)]
          rfl
        unfold Op.shift
        rw [if_neg hneg]
        simp only [hmin, hd]
        rfl
      · have hm : (Int.ofNat x : Int) * (2 : Int) ^ n = ((x * 2 ^ n : Nat) : Int) := by rw [pow_cast]; rfl
        have hr : ∀ v : Int, k.wrap ((x * 2 ^ n : Nat) : Int) = v → (Op.shift .shl k (Int.ofNat x) k' (Int.ofNat n)).run P w = .ok (.int k v) w := fun v hv => by
          unfold Op.shift
          rw [if_neg hneg]
          simp only [hmin, hm, hv]
          rfl
        split at hl
        · rename_i hs
          injection hl with hl; subst hl
          exact ⟨hr _ (wrap_small k _ (Nat.le_of_ble_eq_true hs)), rfl⟩
        · split at hl
          · rename_i hu
            injection hl with hl; subst hl
            exact ⟨hr _ (wrap_unsigned k _ hu), rfl⟩
          · cases hl
      · cases hl
    · cases hl
  · cases hl

theorem lbitsAt_ok {op : BinOp} {f : Nat → Nat → Nat} {k : IntKind} {a b : Int} {r : Value} (hf : (op = .and ∧ f = (· &&& ·)) ∨ (op = .or ∧ f = (· ||| ·)) ∨ (op = .xor ∧ f = (· ^^^ ·))) (hl : lbitsAt f k a b = some r) :
    (Op.intBits op k a b).run P w = .ok r w ∧ flat r = true := by
  unfold lbitsAt at hl
  split at hl
  · rename_i x y
    split at hl
    · rename_i hb
      simp only [Bool.and_eq_true] at hb
      obtain ⟨h1, h2⟩ := hb
      have h1 : x < lwhole k := Nat.le_of_ble_eq_true h1
      have h2 : y < lwhole k := Nat.le_of_ble_eq_true h2
      injection hl with hl; subst hl
      refine ⟨?_, rfl⟩
      have e1 : (BitVec.ofInt k.bits (Int.ofNat x)).toNat = x := bits_of k x h1
      have e2 : (BitVec.ofInt k.bits (Int.ofNat y)).toNat = y := bits_of k y h2
      rcases hf with ⟨rfl, rfl⟩ | ⟨rfl, rfl⟩ | ⟨rfl, rfl⟩
      · simp only [Op.intBits, BitVec.toNat_and, e1, e2, wrap_small k _ (land_lt h1)]; rfl
      · simp only [Op.intBits, BitVec.toNat_or, e1, e2, wrap_small k _ (lor_lt h1 h2)]; rfl
      · simp only [Op.intBits, BitVec.toNat_xor, e1, e2, wrap_small k _ (lxor_lt h1 h2)]; rfl
    · cases hl
  · cases hl

/-- Whole numbers: what the program's own operation comes to. -/
theorem lints_ok {op : BinOp} {t : TypeId} {x y r : Value} (hl : lints op x y = some r) : (binOp op t x y).run P w = .ok r w ∧ flat r = true := by
  unfold lints at hl
  split at hl
  · rename_i k a k' b
    have hsh : (op = .shl ∨ op = .shr) → lshift op k a b = some r → (binOp op t (.int k a) (.int k' b)).run P w = .ok r w ∧ flat r = true := fun ho hs => by
      rcases ho with rfl | rfl <;> exact lshift_ok (k' := k') (by simp) hs
    have hbin : lbin op k a k' b = some r → op ≠ .shl → op ≠ .shr → (binOp op t (.int k a) (.int k' b)).run P w = .ok r w ∧ flat r = true := fun hs n1 n2 => by
      unfold lbin at hs
      split at hs
      · rename_i hk
        have hk := kind_same hk
        subst hk
        unfold lbinAt at hs
        split at hs
        · injection hs with hs; subst hs; rw [lwrap_ok]; exact ⟨by simp [binOp, Op.intArith], rfl⟩
        · injection hs with hs; subst hs; rw [lwrap_ok]; exact ⟨by simp [binOp, Op.intArith], rfl⟩
        · injection hs with hs; subst hs; rw [lwrap_ok]; exact ⟨by simp [binOp, Op.intArith], rfl⟩
        · injection hs with hs; subst hs; refine ⟨?_, rfl⟩; simp [binOp, Op.intCmp]; by_cases e : a = b <;> simp [e]
        · injection hs with hs; subst hs; refine ⟨?_, rfl⟩; simp [binOp, Op.intCmp]; by_cases e : a = b <;> simp [e]
        · injection hs with hs; subst hs; exact ⟨by simp [binOp, Op.intCmp], rfl⟩
        · injection hs with hs; subst hs; exact ⟨by simp [binOp, Op.intCmp], rfl⟩
        · injection hs with hs; subst hs; exact ⟨by simp [binOp, Op.intCmp], rfl⟩
        · injection hs with hs; subst hs; exact ⟨by simp [binOp, Op.intCmp], rfl⟩
        · obtain ⟨h1, h2⟩ := lbitsAt_ok (P := P) (w := w) (.inl ⟨rfl, rfl⟩) hs; exact ⟨by simpa [binOp] using h1, h2⟩
        · obtain ⟨h1, h2⟩ := lbitsAt_ok (P := P) (w := w) (.inr (.inl ⟨rfl, rfl⟩)) hs; exact ⟨by simpa [binOp] using h1, h2⟩
        · obtain ⟨h1, h2⟩ := lbitsAt_ok (P := P) (w := w) (.inr (.inr ⟨rfl, rfl⟩)) hs; exact ⟨by simpa [binOp] using h1, h2⟩
        · cases hs
      · cases hs
    split at hl
    · exact hsh (.inl rfl) hl
    · exact hsh (.inr rfl) hl
    · rename_i n1 n2
      exact hbin hl n1 n2
  · cases hl
end
end Go.Proofs.YtiedaccgagnofaaGreat
