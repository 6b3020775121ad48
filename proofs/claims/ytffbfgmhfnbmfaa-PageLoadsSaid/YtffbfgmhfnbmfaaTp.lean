/- Pages in plain numbers: whose a byte is. -/
import Derived.Test.YtffbfgmhfnbmfaaPs
namespace Go.Proofs.Ytffbfgmhfnbmfaa
open Go.RowKit

/-- Has a byte an owner, behind i slots? -/
def ownB (f : Nat → Nat) (i x : Nat) : Bool := decide (x < 4 + 4 * cnt f) || (parts f i).any fun p => decide (p.1 ≤ x) && decide (x < p.2)

theorem ownB0 (f : Nat → Nat) : (fun x => decide (x < 4 + 4 * cnt f)) = ownB f 0 := by funext x; simp [ownB, parts]

theorem okB_no {f : Nat → Nat} {k : Nat} (ho : offB f k = false) (h : siz f k < 30 ∨ frm f k < stt f ∨ 512 < frm f k + siz f k ∨ verB f (frm f k) (siz f k) = false) : okB f k = false := by
  cases e : okB f k
  · rfl
  · have h2 := okB_on e ho
    rcases h with h | h | h | h
    · omega
    · omega
    · omega
    · rw [h] at h2; simp at h2

theorem okB_yes {f : Nat → Nat} {k : Nat} (h1 : 30 ≤ siz f k) (h2 : stt f ≤ frm f k) (h3 : frm f k + siz f k ≤ 512) (h4 : verB f (frm f k) (siz f k) = true) : okB f k = true := by
  unfold okB
  simp [h1, h2, h3, h4]

theorem parts_sub (f : Nat → Nat) : ∀ m n, n ≤ m → (parts f n).Sublist (parts f m)
  | 0, n, h => by
    obtain rfl : n = 0 := by omega
    exact .refl _
  | m + 1, n, h => by
    by_cases e : n = m + 1
    · subst e; exact .refl _
    · exact (parts_sub f m n (by omega)).trans (List.sublist_append_left _ _)

theorem parts_on {f : Nat → Nat} {i : Nat} (ho : offB f i = false) : parts f (i + 1) = parts f i ++ [(frm f i, frm f i + siz f i)] := by
  rw [parts, if_neg (by simp [ho])]

theorem ownB_iff {f : Nat → Nat} {i x : Nat} : ownB f i x = true ↔ x < 4 + 4 * cnt f ∨ InPart (parts f i) x := by
  unfold ownB InPart
  simp

/-- A byte that has an owner already. -/
theorem own_hit {f : Nat → Nat} {i x : Nat} (hil : i < cnt f) (ho : offB f i = false) (hst : 4 + 4 * cnt f ≤ frm f i) (h1 : frm f i ≤ x) (h2 : x < frm f i + siz f i) (h : ownB f i x = true) : ¬ SoundP f := by
  intro hs
  rcases ownB_iff.1 h with h | ⟨p, hp, h3, h4⟩
  · omega
  · have hpw := hs.apart.sublist (parts_sub f (cnt f) (i + 1) (by omega))
    rw [parts_on ho, List.pairwise_append] at hpw
    have := hpw.2.2 p hp _ (List.mem_singleton.2 rfl)
    unfold Apart2 at this
    simp only at this
    omega

/-- No byte has an owner. -/
theorem apart_step {f : Nat → Nat} {i : Nat} (hap : (parts f i).Pairwise Apart2) (hok : allOk f i = true) (ho : offB f i = false) (hs : 0 < siz f i) (hfree : ∀ x, frm f i ≤ x → x < frm f i + siz f i → ownB f i x = false) : (parts f (i + 1)).Pairwise Apart2 := by
  rw [parts_on ho, List.pairwise_append]
  refine ⟨hap, List.pairwise_singleton _ _, fun p hp q hq => ?_⟩
  rw [List.mem_singleton] at hq
  subst hq
  obtain ⟨k, hk, hko, rfl⟩ := (parts_mem f i p).1 hp
  have hkk := (allOk_iff f i).1 hok k hk
  have hon := okB_on hkk hko
  unfold Apart2
  simp only
  by_cases e1 : frm f k + siz f k ≤ frm f i
  · exact .inl e1
  · by_cases e2 : frm f i + siz f i ≤ frm f k
    · exact .inr e2
    · have h0 := hfree (max (frm f k) (frm f i)) (by omega) (by omega)
      have h1 : ownB f i (max (frm f k) (frm f i)) = true := ownB_iff.2 (.inr ⟨_, hp, by simp only; omega, by simp only; omega⟩)
      rw [h1] at h0
      cases h0

/-- Has a byte an owner, behind i slots and a part up to x? -/
def ownT (f : Nat → Nat) (i x y : Nat) : Bool := ownB f i y || (decide (frm f i ≤ y) && decide (y < x))

theorem ownT0 (f : Nat → Nat) (i : Nat) : ownB f i = ownT f i (frm f i) := by
  funext y
  unfold ownT
  have : (decide (frm f i ≤ y) && decide (y < frm f i)) = false := by
    by_cases e : frm f i ≤ y
    · have : ¬ y < frm f i := by omega
      simp [this]
    · simp [e]
  rw [this, Bool.or_false]

theorem ownT_step (f : Nat → Nat) (i x : Nat) (h : frm f i ≤ x) : (fun y => if y = x then true else ownT f i x y) = ownT f i (x + 1) := by
  funext y
  unfold ownT
  by_cases e : y = x
  · subst e; simp [h]
  · rw [if_neg e]
    have : decide (y < x) = decide (y < x + 1) := by simp; omega
    rw [this]

theorem ownT_end {f : Nat → Nat} {i : Nat} (ho : offB f i = false) : ownT f i (frm f i + siz f i) = ownB f (i + 1) := by
  funext y
  unfold ownT ownB
  rw [parts_on ho]
  simp [Bool.or_assoc]
end Go.Proofs.Ytffbfgmhfnbmfaa
