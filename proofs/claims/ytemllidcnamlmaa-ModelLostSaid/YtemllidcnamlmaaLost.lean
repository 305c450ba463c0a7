/- ModelLost: the plain law. -/
import Derived.Test.YtemllidcnamlmaaLaw
namespace Go.Proofs.Ytemllidcnamlmaa
namespace MS

/-- The state behind k Asyncs of the same data, the one at 'lost' lost. -/
def lst (base : Int) (lost : Nat) (data : List Int) (k : Nat) : MS :=
  ⟨base, base, base, base + k, if lost < k then base + lost else top, List.replicate k data, false, false⟩


theorem lst_inv {base : Int} {lost n k : Nat} {data : List Int} (h1 : 1 ≤ base) (h2 : base ≤ 1152921504606846976) (hn : n ≤ 30) (hd : data.length ≤ 100) (hk : k ≤ n) : (lst base lost data k).Inv := by
  refine ⟨h1, Int.le_refl _, Int.le_refl _, by simp [lst]; omega, ?_, by simp [lst, top]; omega, ?_, by simp [lst]; omega, by simp [lst]; omega, ?_⟩
  · simp only [lst, top]; split <;> omega
  · simp only [lst, top]; split <;> omega
  · intro l hl
    simp [lst] at hl
    rw [hl.2]; omega

theorem lst_step {base : Int} {lost n k : Nat} {data : List Int} (h1 : 1 ≤ base) (h2 : base ≤ 1152921504606846976) (hn : n ≤ 30) (hd : data.length ≤ 100) (hk : k < n) : (lst base lost data k).apply ⟨2, 0, data⟩ ⟨if k = lost then 40 else 0, base + k, []⟩ = some (lst base lost data (k + 1)) := by
  have hadd : (lst base lost data k).add (base + k) data = some ⟨base, base, base, base + k + 1, if lost < k then base + lost else top, List.replicate k data ++ [data], false, false⟩ := by
    unfold add
    rw [if_pos ⟨⟨rfl, rfl⟩, by omega, rfl, by unfold top; omega⟩]
    rfl
  have hrep : List.replicate k data ++ [data] = List.replicate (k + 1) data := by rw [List.replicate_succ']
  by_cases e : k = lost
  · subst e
    have : (lst base k data k).append ⟨2, 0, data⟩ ⟨40, base + k, []⟩ = some (lst base k data (k + 1)) := by
      unfold append
      dsimp only
      rw [if_neg (by decide), if_pos rfl, if_neg (by omega), hadd]
      simp only [Option.bind_some, lower]
      rw [if_neg (Nat.lt_irrefl k), show min top (base + (k : Int)) = base + k by unfold top; omega, if_pos (by omega), hrep]
      simp only [lst, Option.some.injEq, mk.injEq, true_and, and_true]
      refine ⟨by omega, ?_⟩
      rw [if_pos (by omega)]
    simpa [apply, used, apply1, answer, reads, lst] using this
  · rw [if_neg e]
    have : (lst base lost data k).append ⟨2, 0, data⟩ ⟨0, base + k, []⟩ = some (lst base lost data (k + 1)) := by
      unfold append
      dsimp only
      rw [if_pos rfl, if_pos (.inl rfl), hadd, hrep]
      simp only [lst, Option.some.injEq, mk.injEq, true_and, and_true]
      refine ⟨by omega, ?_⟩
      by_cases hlk : lost < k
      · rw [if_pos hlk, if_pos (by omega)]
      · rw [if_neg hlk, if_neg (by omega)]
    simpa [apply, used, apply1, answer, reads, lst] using this

theorem lst_append {base : Int} {lost n : Nat} {data : List Int} (hl : lost < n) : (lst base lost data n).apply ⟨1, 0, data⟩ ⟨0, (lst base lost data n).next, []⟩ = none := by
  have : (lst base lost data n).append ⟨1, 0, data⟩ ⟨0, (lst base lost data n).next, []⟩ = none := by
    unfold append
    dsimp only
    rw [if_pos rfl, if_neg (by simp [lst, hl]; omega)]
  simpa [apply, used, apply1, answer, reads, lst] using this
theorem lst_sync {base : Int} {lost n : Nat} {data : List Int} (hl : lost < n) : (lst base lost data n).apply ⟨3, 0, []⟩ ⟨0, 0, []⟩ = none := by
  have : (lst base lost data n).sync ⟨0, 0, []⟩ = none := by
    unfold sync
    dsimp only
    rw [if_neg (by simp), if_pos rfl, if_neg (by simp [lst, hl])]
  simpa [apply, used, apply1, answer, reads, lst] using this
theorem lst_close {base : Int} {lost n : Nat} {data : List Int} (hl : lost < n) : (lst base lost data n).apply ⟨7, 0, []⟩ ⟨0, 0, []⟩ = none := by
  have : (lst base lost data n).close ⟨0, 0, []⟩ = none := by
    unfold close sync
    dsimp only
    rw [if_neg (by simp), if_pos rfl, if_neg (by simp [lst, hl])]
    rfl
  simpa [apply, used, apply1, answer, reads, lst] using this
theorem lst_read {base : Int} {lost n k : Nat} {data : List Int} (hl : lost < n) (hk : k < n) : ((lst base lost data n).apply ⟨4, base + k, []⟩ ⟨0, base + k, data⟩).isSome = decide (k < lost) := by
  have hnth : (lst base lost data n).nth (base + k) = data := by
    unfold nth
    simp only [lst]
    rw [show (base + (k : Int) - base).toNat = k by omega]
    simp [List.getD_eq_getElem?_getD, hk]
  have : (lst base lost data n).read ⟨4, base + k, []⟩ ⟨0, base + k, data⟩ = (lst base lost data n).raise (base + k + 1) := by
    unfold read
    dsimp only
    rw [if_pos rfl, if_pos ⟨rfl, by simp [lst]; omega, by simp [lst]; omega, by rw [hnth]; simp [eqB]⟩]
  have h3 : ((lst base lost data n).raise (base + k + 1)).isSome = decide (k < lost) := by
    unfold raise
    by_cases e : k < lost
    · rw [if_pos (by simp [lst, hl]; omega)]; simp [e]
    · rw [if_neg (by simp [lst, hl]; omega)]; simp [e]
  rw [← h3, ← this]
  simp [apply, used, apply1, answer, reads, lst]
theorem lst_not {base : Int} {lost n k : Nat} {data : List Int} : ((lst base lost data n).apply ⟨4, base + k, []⟩ ⟨42, 0, []⟩).isSome = true := by
  have : (lst base lost data n).read ⟨4, base + k, []⟩ ⟨42, 0, []⟩ = some (lst base lost data n) := by
    unfold read
    dsimp only
    rw [if_neg (by decide), if_neg (by simp), if_neg (by decide), if_neg (by decide), if_pos ⟨rfl, rfl⟩, if_pos (by simp [lst]; omega)]
  have h : (lst base lost data n).apply ⟨4, base + k, []⟩ ⟨42, 0, []⟩ = some (lst base lost data n) := by
    simpa [apply, used, apply1, answer, reads, lst] using this
  rw [h]; rfl
theorem lst_front {base : Int} {lost n k : Nat} {data : List Int} (hl : lost < n) (hk : k < n) : ((lst base lost data n).apply ⟨6, base + k, []⟩ ⟨0, 0, []⟩).isSome = decide (k ≤ lost) := by
  have : ((lst base lost data n).truncate ⟨6, base + k, []⟩ ⟨0, 0, []⟩).isSome = decide (k ≤ lost) := by
    unfold truncate
    dsimp only
    rw [if_neg (by decide), if_neg (by simp [lst, sane]), if_neg (by simp), if_pos rfl]
    by_cases e : k = 0
    · rw [if_neg (by simp [lst]; omega)]; simp; omega
    · rw [if_pos (by simp [lst]; omega)]
      unfold front raise
      rw [if_pos (by simp [lst]; omega)]
      by_cases e2 : k ≤ lost
      · rw [if_pos (by simp [lst, hl]; omega)]; simp [e2]
      · rw [if_neg (by simp [lst, hl]; omega)]; simp [e2]
  rw [← this]
  simp [apply, used, apply1, answer, reads, lst]
end MS
end Go.Proofs.Ytemllidcnamlmaa
