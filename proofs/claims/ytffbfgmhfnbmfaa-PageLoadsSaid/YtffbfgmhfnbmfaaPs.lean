/- Pages in plain numbers: which bytes are a page's. -/
import Derived.Test.YtffbfgmhfnbmfaaPr
namespace Go.Proofs.Ytffbfgmhfnbmfaa
open Go.RowKit

/-- What stands at o is a version of n bytes in all. -/
def verB (f : Nat → Nat) (o n : Nat) : Bool := rightB (le f o 8) (le f (o + 8) 8) (le f (o + 16) 8) ((le f (o + 24) 4 : Int) - 1) ((le f (o + 28) 2 : Int) - 1) (n - 30)

/-- A slot's pointer is of none. -/
def offB (f : Nat → Nat) (k : Nat) : Bool := decide (siz f k = 0) && decide (frm f k = 0)

def okB (f : Nat → Nat) (k : Nat) : Bool := offB f k || (decide (30 ≤ siz f k) && (decide (stt f ≤ frm f k) && (decide (frm f k + siz f k ≤ 512) && verB f (frm f k) (siz f k))))

/-- Where versions lie. -/
def parts (f : Nat → Nat) : Nat → List (Nat × Nat)
  | 0 => []
  | k + 1 => parts f k ++ (if offB f k = true then [] else [(frm f k, frm f k + siz f k)])

def frontB (f : Nat → Nat) : Bool := decide (stt f ≤ 512) && (decide (4 + 4 * cnt f ≤ stt f) && !(decide (0 < cnt f) && decide (siz f (cnt f - 1) = 0)))

def allOk (f : Nat → Nat) : Nat → Bool
  | 0 => true
  | k + 1 => allOk f k && okB f k

def zerosB (f : Nat → Nat) (a n : Nat) : Bool := match n with
  | 0 => true
  | n + 1 => decide (f a = 0) && zerosB f (a + 1) n

def gapsB (f : Nat → Nat) : Nat → List (Nat × Nat) → Bool
  | _, [] => true
  | at', (x, y) :: l => decide (at' ≤ x) && (zerosB f at' (x - at') && gapsB f y l)

theorem zerosB_iff (f : Nat → Nat) : ∀ (n a : Nat), zerosB f a n = true ↔ ∀ j, a ≤ j → j < a + n → f j = 0
  | 0, a => by simp [zerosB]; omega
  | n + 1, a => by
    rw [zerosB, Bool.and_eq_true, decide_eq_true_eq, zerosB_iff f n (a + 1)]
    constructor
    · rintro ⟨h0, h⟩ j h1 h2
      by_cases e : j = a
      · subst e; exact h0
      · exact h j (by omega) (by omega)
    · intro h
      exact ⟨h a (Nat.le_refl _) (by omega), fun j h1 h2 => h j (by omega) (by omega)⟩

def InPart (L : List (Nat × Nat)) (j : Nat) : Prop := ∃ p ∈ L, p.1 ≤ j ∧ j < p.2
def Apart2 (p q : Nat × Nat) : Prop := p.2 ≤ q.1 ∨ q.2 ≤ p.1

/-- The gaps of parts that stand in order. -/
theorem gaps_iff (f : Nat → Nat) (E : Nat) : ∀ (L : List (Nat × Nat)) (a : Nat), (∀ p ∈ L, p.1 < p.2 ∧ p.2 ≤ E) → a ≤ E → L.Pairwise (fun p q => p.1 ≤ q.1) →
    (gapsB f a (L ++ [(E, E)]) = true ↔ (∀ p ∈ L, a ≤ p.1) ∧ L.Pairwise Apart2 ∧ ∀ j, a ≤ j → j < E → f j = 0 ∨ InPart L j)
  | [], a, _, ha, _ => by
    simp only [List.nil_append, gapsB, Bool.and_true, Bool.and_eq_true, decide_eq_true_eq, zerosB_iff]
    constructor
    · rintro ⟨_, h⟩
      exact ⟨fun p hp => by simp at hp, List.Pairwise.nil, fun j h1 h2 => .inl (h j h1 (by omega))⟩
    · rintro ⟨_, _, h⟩
      refine ⟨ha, fun j h1 h2 => ?_⟩
      rcases h j h1 (by omega) with h | ⟨p, hp, _⟩
      · exact h
      · simp at hp
  | (x, y) :: L, a, hL, ha, hs => by
    have hxy := hL (x, y) (by simp)
    simp only at hxy
    rw [List.pairwise_cons] at hs
    have ih := gaps_iff f E L y (fun p hp => hL p (by simp [hp])) hxy.2 hs.2
    rw [List.cons_append, gapsB, Bool.and_eq_true, Bool.and_eq_true, decide_eq_true_eq, zerosB_iff, ih]
    constructor
    · rintro ⟨h1, h2, h3, h4, h5⟩
      refine ⟨fun p hp => ?_, List.pairwise_cons.2 ⟨fun q hq => .inl (h3 q hq), h4⟩, fun j j1 j2 => ?_⟩
      · rcases List.mem_cons.1 hp with rfl | hp
        · exact h1
        · have := h3 p hp; omega
      · by_cases e1 : j < x
        · exact .inl (h2 j j1 (by omega))
        · by_cases e2 : j < y
          · exact .inr ⟨(x, y), by simp, by simp; omega⟩
          · rcases h5 j (by omega) j2 with h | ⟨p, hp, hj⟩
            · exact .inl h
            · exact .inr ⟨p, by simp [hp], hj⟩
    · rintro ⟨h1, h2, h3⟩
      rw [List.pairwise_cons] at h2
      have hx := h1 (x, y) (by simp)
      simp only at hx
      have hlater : ∀ q ∈ L, y ≤ q.1 := fun q hq => by
        have hq1 := hs.1 q hq
        have hq2 := hL q (by simp [hq])
        rcases h2.1 q hq with h | h
        · exact h
        · simp only at h hq1; omega
      refine ⟨hx, fun j j1 j2 => ?_, hlater, h2.2, fun j j1 j2 => ?_⟩
      · rcases h3 j j1 (by omega) with h | ⟨p, hp, hj⟩
        · exact h
        · rcases List.mem_cons.1 hp with rfl | hp
          · simp only at hj; omega
          · have := hs.1 p hp; simp only at this; omega
      · rcases h3 j (by omega) j2 with h | ⟨p, hp, hj⟩
        · exact .inl h
        · rcases List.mem_cons.1 hp with rfl | hp
          · simp only at hj; omega
          · exact .inr ⟨p, hp, hj⟩

theorem apart2_symm : ∀ {p q : Nat × Nat}, Apart2 p q → Apart2 q p := fun h => h.symm

/-- The bytes are a page's. -/
structure SoundP (f : Nat → Nat) : Prop where
  front : frontB f = true
  ok : allOk f (cnt f) = true
  apart : (parts f (cnt f)).Pairwise Apart2
  rest : ∀ j, 4 + 4 * cnt f ≤ j → j < 512 → f j = 0 ∨ InPart (parts f (cnt f)) j

theorem allOk_iff (f : Nat → Nat) : ∀ n, allOk f n = true ↔ ∀ k, k < n → okB f k = true
  | 0 => by simp [allOk]
  | n + 1 => by
    rw [allOk, Bool.and_eq_true, allOk_iff f n]
    constructor
    · rintro ⟨h1, h2⟩ k hk
      by_cases e : k = n
      · subst e; exact h2
      · exact h1 k (by omega)
    · intro h
      exact ⟨fun k hk => h k (by omega), h n (by omega)⟩

theorem parts_mem (f : Nat → Nat) : ∀ n p, p ∈ parts f n ↔ ∃ k, k < n ∧ offB f k = false ∧ p = (frm f k, frm f k + siz f k)
  | 0, p => by simp [parts]
  | n + 1, p => by
    rw [parts, List.mem_append, parts_mem f n p]
    constructor
    · rintro (⟨k, h1, h2⟩ | h)
      · exact ⟨k, by omega, h2⟩
      · split at h
        · simp at h
        · rename_i ho
          simp at h
          exact ⟨n, by omega, by simpa using ho, h⟩
    · rintro ⟨k, h1, h2, h3⟩
      by_cases e : k = n
      · subst e
        right
        rw [if_neg (by simp [h2])]
        simp [h3]
      · exact .inl ⟨k, by omega, h2, h3⟩

theorem okB_on {f : Nat → Nat} {k : Nat} (h : okB f k = true) (ho : offB f k = false) : 30 ≤ siz f k ∧ stt f ≤ frm f k ∧ frm f k + siz f k ≤ 512 ∧ verB f (frm f k) (siz f k) = true := by
  unfold okB at h
  rw [ho] at h
  simpa using h

/-- Sorted parts, and their gaps: the bytes are a page's or not. -/
theorem sound_gaps {f : Nat → Nat} (hf : frontB f = true) (ho : allOk f (cnt f) = true) {L : List (Nat × Nat)} (hp : L.Perm (parts f (cnt f))) (hs : L.Pairwise (fun p q => p.1 ≤ q.1)) :
    gapsB f (4 + 4 * cnt f) (L ++ [(512, 512)]) = true ↔ SoundP f := by
  have hfr : stt f ≤ 512 ∧ 4 + 4 * cnt f ≤ stt f := by
    unfold frontB at hf
    simp at hf
    exact ⟨hf.1, hf.2.1⟩
  have hin : ∀ p ∈ L, (p.1 < p.2 ∧ p.2 ≤ 512) ∧ stt f ≤ p.1 := fun p hpl => by
    obtain ⟨k, hk, h1, rfl⟩ := (parts_mem f _ p).1 (hp.mem_iff.1 hpl)
    have := okB_on ((allOk_iff f _).1 ho k hk) h1
    simp only
    omega
  rw [gaps_iff f 512 L _ (fun p hpl => (hin p hpl).1) (by omega) hs]
  constructor
  · rintro ⟨_, h2, h3⟩
    refine ⟨hf, ho, (hp.pairwise_iff (fun h => apart2_symm h)).1 h2, fun j h1 h4 => ?_⟩
    rcases h3 j h1 h4 with h | ⟨p, hpl, hj⟩
    · exact .inl h
    · exact .inr ⟨p, hp.mem_iff.1 hpl, hj⟩
  · rintro ⟨_, _, h2, h3⟩
    refine ⟨fun p hpl => by have := (hin p hpl).2; omega, (hp.pairwise_iff (fun h => apart2_symm h)).2 h2, fun j h1 h4 => ?_⟩
    rcases h3 j h1 h4 with h | ⟨p, hpl, hj⟩
    · exact .inl h
    · exact .inr ⟨p, hp.mem_iff.2 hpl, hj⟩
end Go.Proofs.Ytffbfgmhfnbmfaa
