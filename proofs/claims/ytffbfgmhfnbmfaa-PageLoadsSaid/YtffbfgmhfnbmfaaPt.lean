/- Pages whose last slot is never free. -/
import Derived.Test.YtffbfgmhfnbmfaaDa
import Derived.Test.YtffbfgmhfnbmfaaPs
import Derived.Test.YtffbfgmhfnbmfaaPb
namespace Go.Proofs.Ytffbfgmhfnbmfaa
open Go.RowKit

def TightL (L : Ln) : Prop := ∀ k, k + 1 = L.length → (L.getD k none).isSome = true
def Tight (st : St) : Prop := TightL (vers st.slots)

theorem tight0 : Tight st0 := fun k h => by simp [st0, vers] at h

theorem TightL.set {L : Ln} (h : TightL L) (k : Nat) (v : Ver) : TightL (L.set k (some v)) := fun j hj => by
  rw [List.length_set] at hj
  rw [List.getD_eq_getElem?_getD]
  by_cases e : k = j
  · subst e
    rw [List.getElem?_set_self (by omega)]; rfl
  · rw [List.getElem?_set_ne e, ← List.getD_eq_getElem?_getD]; exact h j hj

theorem TightL.put {L : Ln} (h : TightL L) (v : Ver) : TightL (putL L v) := by
  unfold putL
  split
  · intro k hk
    rw [List.length_append, List.length_singleton] at hk
    obtain rfl : k = L.length := by omega
    rw [List.getD_eq_getElem?_getD, List.getElem?_append_right (Nat.le_refl _), Nat.sub_self]; rfl
  · exact h.set _ _

theorem trimLN_last (L : Ln) : ∀ m t, trimLN L m = t + 1 → (L.getD t none).isSome = true
  | 0, t, h => by simp [trimLN] at h
  | m + 1, t, h => by
    unfold trimLN at h
    split at h
    · obtain rfl : t = m := by omega
      assumption
    · exact trimLN_last L m t h

theorem trimLN_le (L : Ln) : ∀ m, trimLN L m ≤ m
  | 0 => Nat.le_refl _
  | m + 1 => by
    unfold trimLN
    split
    · exact Nat.le_refl _
    · have := trimLN_le L m; omega

theorem TightL.trim (L : Ln) : TightL (trimL L) := fun k hk => by
  have hle := trimLN_le L L.length
  unfold trimL at hk ⊢
  rw [List.length_take, Nat.min_eq_left hle] at hk
  have := trimLN_last L L.length k hk.symm
  rw [List.getD_eq_getElem?_getD, List.getElem?_take, if_pos (by omega), ← List.getD_eq_getElem?_getD]
  exact this

def NearL (L : Ln) : Prop := ∀ v, some v ∈ L → farB ((v.P : Int) - 1) ((v.S : Int) - 1) = false

theorem mem_setL {L : Ln} {k : Nat} {s t : Option Ver} (h : t ∈ L.set k s) : t ∈ L ∨ t = s := List.mem_or_eq_of_mem_set h

theorem NearL.set {L : Ln} (h : NearL L) (k : Nat) {v : Ver} (hv : farB ((v.P : Int) - 1) ((v.S : Int) - 1) = false) : NearL (L.set k (some v)) := fun v' hm => by
  rcases mem_setL hm with h1 | h1
  · exact h v' h1
  · cases h1; exact hv

theorem NearL.put {L : Ln} (h : NearL L) {v : Ver} (hv : farB ((v.P : Int) - 1) ((v.S : Int) - 1) = false) : NearL (putL L v) := by
  unfold putL
  split
  · intro v' hm
    rcases List.mem_append.1 hm with h1 | h1
    · exact h v' h1
    · simp at h1; subst h1; exact hv
  · exact h.set _ hv

theorem NearL.free {L : Ln} (h : NearL L) (k : Nat) : NearL (freeL L k) := fun v' hm => by
  have h1 := List.mem_of_mem_take hm
  rcases mem_setL h1 with h2 | h2
  · exact h v' h2
  · cases h2

/-- A page's state that bytes can be read back from. -/
def Good (st : St) : Prop := TightL (vers st.slots) ∧ NearL (vers st.slots)

theorem good0 : Good st0 := ⟨tight0, fun v h => by simp [st0, vers] at h⟩

theorem near_eq {p s : Int} (hf : farB p s = false) : (((p + 1).toNat : Nat) : Int) - 1 = p ∧ (((s + 1).toNat : Nat) : Int) - 1 = s := by
  obtain ⟨P', S', rfl, rfl, _, _⟩ := near p s hf
  constructor <;> omega

theorem stampR_good {st : St} (h : Good st) (k : Int) (x : Nat) (p s : Int) : Good (stampR st k x p s).2 := by
  unfold stampR
  split
  · exact h
  · rename_i hn
    have hf : farB p s = false := by cases hf : farB p s <;> simp_all
    split
    · rename_i h2
      obtain ⟨n, f, ver, rfl, hk⟩ := there_yes h2
      show Good (stampA st n _ _ _)
      rw [stampA_eq hk]
      show TightL (vers (st.slots.set n _)) ∧ NearL (vers (st.slots.set n _))
      rw [vers_set]
      refine ⟨TightL.set h.1 _ _, NearL.set h.2 _ ?_⟩
      show farB ((((p + 1).toNat : Nat) : Int) - 1) ((((s + 1).toNat : Nat) : Int) - 1) = false
      rw [(near_eq hf).1, (near_eq hf).2]; exact hf
    · exact h

theorem freeR_good {st : St} (h : Good st) (k : Int) : Good (freeR st k).2 := by
  unfold freeR
  split
  · show TightL (vers (freeA st _).slots) ∧ NearL (vers (freeA st _).slots)
    rw [vers_free]
    exact ⟨TightL.trim _, h.2.free _⟩
  · exact h

theorem insertR_good {st : St} (h : Good st) (r x y : Nat) (p s : Int) (m : Nat) (d : Nat → Nat) : Good (insertR st r x y p s m d).2.2 := by
  unfold insertR
  split
  · exact h
  · rename_i hr
    split
    · exact h
    · have hf := right_far (show rightB r x y p s m = true by simpa using hr)
      show TightL (vers (putA st _).slots) ∧ NearL (vers (putA st _).slots)
      rw [vers_put]
      refine ⟨TightL.put h.1 _, h.2.put ?_⟩
      show farB ((((p + 1).toNat : Nat) : Int) - 1) ((((s + 1).toNat : Nat) : Int) - 1) = false
      rw [(near_eq hf).1, (near_eq hf).2]; exact hf
end Go.Proofs.Ytffbfgmhfnbmfaa

namespace Go.Proofs.Ytffbfgmhfnbmfaa
open Go.RowKit

theorem le_digit {f : Nat → Nat} (hf : ∀ i, f i < 256) : ∀ (n lo j : Nat), j < n → le f lo n / 256 ^ j % 256 = f (lo + j)
  | 0, _, _, h => by omega
  | n + 1, lo, 0, _ => by
    simp only [le, Nat.pow_zero, Nat.div_one, Nat.add_zero]
    have := hf lo; omega
  | n + 1, lo, j + 1, h => by
    have ih := le_digit hf n (lo + 1) j (by omega)
    simp only [le]
    rw [Nat.pow_succ, Nat.mul_comm (256 ^ j) 256, ← Nat.div_div_eq_div_mul]
    have h0 := hf lo
    rw [show (f lo + 256 * le f (lo + 1) n) / 256 = le f (lo + 1) n from by omega, ih]
    congr 1; omega

def decV (f : Nat → Nat) (o n : Nat) : Ver := ⟨le f o 8, le f (o + 8) 8, le f (o + 16) 8, le f (o + 24) 4, le f (o + 28) 2, (List.range (n - 30)).map fun j => f (o + 30 + j)⟩
def decS (f : Nat → Nat) (k : Nat) : Slot := if offB f k = true then none else some (frm f k, decV f (frm f k) (siz f k))
def dec (f : Nat → Nat) : St := ⟨(List.range (cnt f)).map (decS f), stt f⟩

theorem decV_len (f : Nat → Nat) (o n : Nat) : (decV f o n).data.length = n - 30 := by simp [decV]
theorem decV_size (f : Nat → Nat) {o n : Nat} (h : 30 ≤ n) : (decV f o n).size = n := by unfold Ver.size; rw [decV_len]; omega
theorem decV_get (f : Nat → Nat) {o n j : Nat} (h : j < n - 30) : (decV f o n).data.getD j 0 = f (o + 30 + j) := by simp [decV, h]

theorem decV_ok {f : Nat → Nat} (hf : ∀ i, f i < 256) {o n : Nat} (hv : verB f o n = true) : (decV f o n).Ok := by
  unfold verB at hv
  have hfar := right_far hv
  have h2 := hv
  unfold rightB at h2
  simp only [Bool.and_eq_true, decide_eq_true_eq] at h2
  obtain ⟨h3, _, h4⟩ := h2
  obtain ⟨P, S, e1, e2, hP, hS⟩ := near _ _ hfar
  refine ⟨?_, ?_, ?_, ?_, ?_, ?_, ?_⟩
  · show le f o 8 ≤ _; omega
  · show le f (o + 8) 8 ≤ _; omega
  · show le f (o + 16) 8 ≤ _; omega
  · show le f (o + 24) 4 ≤ _; omega
  · show le f (o + 28) 2 ≤ _; omega
  · rw [decV_len]; omega
  · intro b hb
    simp only [decV, List.mem_map] at hb
    obtain ⟨j, _, rfl⟩ := hb
    exact hf _

theorem decV_byte {f : Nat → Nat} (hf : ∀ i, f i < 256) (o n j : Nat) (hj : j < n) : (decV f o n).byte j = f (o + j) := by
  unfold Ver.byte
  by_cases h30 : j < 30
  · rw [if_pos h30, head_at _ _ _ _ _ _ h30]
    simp only [decV, fb]
    by_cases h1 : j < 8
    · rw [if_pos h1, le_digit hf _ _ _ h1]
    · by_cases h2 : j < 16
      · rw [if_neg h1, if_pos h2, le_digit hf _ _ _ (by omega)]; congr 1; omega
      · by_cases h3 : j < 24
        · rw [if_neg h1, if_neg h2, if_pos h3, le_digit hf _ _ _ (by omega)]; congr 1; omega
        · by_cases h4 : j < 28
          · rw [if_neg h1, if_neg h2, if_neg h3, if_pos h4, le_digit hf _ _ _ (by omega)]; congr 1; omega
          · rw [if_neg h1, if_neg h2, if_neg h3, if_neg h4, le_digit hf _ _ _ (by omega)]; congr 1; omega
  · rw [if_neg h30, decV_get f (by omega)]
    congr 1; omega

theorem dec_len (f : Nat → Nat) : (dec f).slots.length = cnt f := by simp [dec]

theorem dec_get {f : Nat → Nat} {k : Nat} (hk : k < cnt f) : (dec f).slots[k]? = some (decS f k) := by simp [dec, hk]

theorem dec_some {f : Nat → Nat} {k o : Nat} {v : Ver} (h : (dec f).slots[k]? = some (some (o, v))) : k < cnt f ∧ offB f k = false ∧ o = frm f k ∧ v = decV f (frm f k) (siz f k) := by
  have hk : k < cnt f := by have := (List.getElem?_eq_some_iff.1 h).1; rwa [dec_len] at this
  rw [dec_get hk] at h
  unfold decS at h
  split at h
  · simp at h
  · rename_i ho
    simp at h
    exact ⟨hk, by simpa using ho, h.1.symm, h.2.symm⟩

theorem gaps_sum (f : Nat → Nat) (E : Nat) : ∀ (L : List (Nat × Nat)) (a : Nat), (∀ p ∈ L, p.1 ≤ p.2) → gapsB f a (L ++ [(E, E)]) = true → (L.map fun p => p.2 - p.1).sum + a ≤ E
  | [], a, _, h => by simp [gapsB] at h; simp; omega
  | (x, y) :: L, a, hL, h => by
    rw [List.cons_append, gapsB, Bool.and_eq_true, Bool.and_eq_true, decide_eq_true_eq] at h
    have ih := gaps_sum f E L y (fun p hp => hL p (by simp [hp])) h.2.2
    have := hL (x, y) (by simp)
    simp only [List.map_cons, List.sum_cons]
    simp only at this
    omega

theorem sum_parts {f : Nat → Nat} : ∀ n, (∀ k, k < n → okB f k = true) → ((List.range n).map (decS f)).map (fun s => 4 + sizeOfS s) = (List.range n).map (fun k => 4 + if offB f k = true then 0 else siz f k) := by
  intro n h
  rw [List.map_map]
  apply List.map_congr_left
  intro k hk
  have hk' : k < n := List.mem_range.1 hk
  show 4 + sizeOfS (decS f k) = _
  unfold decS
  by_cases ho : offB f k = true
  · rw [if_pos ho, if_pos ho]; rfl
  · rw [if_neg ho, if_neg ho]
    have := okB_on (h k hk') (by simpa using ho)
    show 4 + (decV f (frm f k) (siz f k)).size = _
    rw [decV_size f this.1]

theorem sum_parts2 (f : Nat → Nat) : ∀ n, ((List.range n).map (fun k => 4 + if offB f k = true then 0 else siz f k)).sum = 4 * n + ((parts f n).map fun p => p.2 - p.1).sum
  | 0 => by simp [parts]
  | n + 1 => by
    rw [List.range_succ, List.map_append, List.sum_append, sum_parts2 f n, parts, List.map_append, List.sum_append]
    by_cases ho : offB f n = true
    · rw [if_pos ho]; simp [ho]; omega
    · rw [if_neg ho]; simp [ho]; omega

theorem sorted_parts (L : List (Nat × Nat)) : ∃ L' : List (Nat × Nat), L'.Perm L ∧ L'.Pairwise (fun p q => p.1 ≤ q.1) := by
  refine ⟨L.mergeSort (fun p q => decide (p.1 ≤ q.1)), List.mergeSort_perm _ _, ?_⟩
  have := List.pairwise_mergeSort (le := fun (p q : Nat × Nat) => decide (p.1 ≤ q.1)) (fun a b c h1 h2 => by simp at *; omega) (fun a b => by simp; omega) L
  exact this.imp (by simp)

theorem dec_wf {f : Nat → Nat} (hf : ∀ i, f i < 256) (h : SoundP f) : Wf (dec f) := by
  have hfr : stt f ≤ 512 ∧ 4 + 4 * cnt f ≤ stt f := by
    have := h.front
    unfold frontB at this
    simp at this
    exact ⟨this.1, this.2.1⟩
  have hok := (allOk_iff f _).1 h.ok
  exact {
    low := by rw [dec_len]; exact hfr.2
    high := hfr.1
    inn := fun k o v hk => by
      obtain ⟨h1, h2, rfl, rfl⟩ := dec_some hk
      have := okB_on (hok k h1) h2
      refine ⟨this.2.1, by rw [decV_size f this.1]; exact this.2.2.1, decV_ok hf this.2.2.2⟩
    apart := fun k k' o v o' v' hlt hk hk' => by
      obtain ⟨h1, h2, rfl, rfl⟩ := dec_some hk
      obtain ⟨h3, h4, rfl, rfl⟩ := dec_some hk'
      have ha := okB_on (hok k h1) h2
      have hb := okB_on (hok k' h3) h4
      rw [decV_size f ha.1, decV_size f hb.1]
      have hpw : ∀ n, (parts f n).Pairwise Apart2 → ∀ i j, i < j → j < n → offB f i = false → offB f j = false → frm f i + siz f i ≤ frm f j ∨ frm f j + siz f j ≤ frm f i := by
        intro n
        induction n with
        | zero => intro _ i j _ h; omega
        | succ n ih =>
          intro hp i j hij hj hi0 hj0
          rw [parts, List.pairwise_append] at hp
          by_cases e : j = n
          · subst e
            rw [if_neg (by simp [hj0])] at hp
            exact hp.2.2 _ ((parts_mem f _ _).2 ⟨i, hij, hi0, rfl⟩) (frm f j, frm f j + siz f j) (by simp)
          · exact ih hp.1 i j hij (by omega) hi0 hj0
      exact hpw _ h.apart k k' hlt h3 h2 h4
    sum := by
      show 4 + sumS ((List.range (cnt f)).map (decS f)) ≤ 512
      unfold sumS
      rw [sum_parts _ hok, sum_parts2]
      obtain ⟨L', hp, hs⟩ := sorted_parts (parts f (cnt f))
      have hg := (sound_gaps h.front h.ok hp hs).2 h
      have := gaps_sum f 512 L' _ (fun p hpl => by
        obtain ⟨k, _, _, rfl⟩ := (parts_mem f _ p).1 (hp.mem_iff.1 hpl)
        simp) hg
      have hsum : (L'.map fun p => p.2 - p.1).sum = ((parts f (cnt f)).map fun p => p.2 - p.1).sum := (hp.map _).sum_nat
      omega }

theorem dec_enc {f : Nat → Nat} (hf : ∀ i, f i < 256) (h : SoundP f) (j : Nat) (hj : j < 512) : enc (dec f) j = f j := by
  have hwf := dec_wf hf h
  have hok := (allOk_iff f _).1 h.ok
  show encG (dec f).slots.length (stt f) (dec f).slots (dataOf (dec f).slots) j = _
  unfold encG byteOf
  rw [dec_len]
  by_cases h1 : j < 2
  · rw [if_pos h1]
    have := le_digit hf 2 0 j h1
    rw [Nat.zero_add] at this
    exact this
  · rw [if_neg h1]
    by_cases h2 : j < 4
    · rw [if_pos h2]
      have := le_digit hf 2 2 (j - 2) (by omega)
      rw [show 2 + (j - 2) = j from by omega] at this
      exact this
    · rw [if_neg h2]
      by_cases h3 : j < 4 + 4 * cnt f
      · rw [if_pos h3]
        have hk : (j - 4) / 4 < cnt f := by omega
        rw [List.getD_eq_getElem?_getD, dec_get hk, Option.getD_some]
        obtain ⟨k, hkk⟩ : ∃ k, k = (j - 4) / 4 := ⟨_, rfl⟩
        obtain ⟨r, hr⟩ : ∃ r, r = (j - 4) % 4 := ⟨_, rfl⟩
        rw [← hkk] at hk ⊢
        rw [← hr]
        have hjj : j = 4 + 4 * k + r := by omega
        have hd1 : ∀ r, r < 2 → frm f k / 256 ^ r % 256 = f (4 + 4 * k + r) := fun r hr => le_digit hf 2 (4 + 4 * k) r hr
        have hd2 : ∀ r, r < 2 → siz f k / 256 ^ r % 256 = f (4 + 4 * k + 2 + r) := fun r hr => le_digit hf 2 (4 + 4 * k + 2) r hr
        unfold decS
        by_cases ho : offB f k = true
        · rw [if_pos ho]
          have h0 := ho
          unfold offB at h0
          simp at h0
          show 0 = f j
          by_cases hr2 : r < 2
          · have := hd1 r hr2
            rw [h0.2] at this
            simp at this
            rw [hjj]; omega
          · have := hd2 (r - 2) (by omega)
            rw [h0.1] at this
            simp at this
            rw [hjj, show 4 + 4 * k + r = 4 + 4 * k + 2 + (r - 2) from by omega]; omega
        · rw [if_neg ho]
          have hon := okB_on (hok k hk) (by simpa using ho)
          unfold ptrByte byteOf
          simp only
          rw [decV_size f hon.1]
          by_cases hr2 : r < 2
          · rw [if_pos hr2, hd1 r hr2, hjj]
          · rw [if_neg hr2, hd2 (r - 2) (by omega), hjj]; congr 1; omega
      · rw [if_neg h3]
        rcases dataOf_cases hwf.apt j with ⟨k, o, v, hk, ho1, ho, hd⟩ | ⟨hn, hd⟩
        · obtain ⟨g1, g2, rfl, rfl⟩ := dec_some hk
          have hon := okB_on (hok k g1) g2
          rw [decV_size f hon.1] at ho
          rw [hd, decV_byte hf _ _ _ (by omega)]
          congr 1; omega
        · rw [hd]
          rcases h.rest j (by omega) hj with h0 | ⟨p, hp, hpj⟩
          · exact h0.symm
          · obtain ⟨k, hk, hoff, rfl⟩ := (parts_mem f _ p).1 hp
            have hon := okB_on (hok k hk) hoff
            have hget : (dec f).slots[k]? = some (some (frm f k, decV f (frm f k) (siz f k))) := by rw [dec_get hk]; unfold decS; rw [if_neg (by simp [hoff])]
            exact (hn k _ _ hget (by rw [decV_size f hon.1]; exact hpj)).elim
end Go.Proofs.Ytffbfgmhfnbmfaa

namespace Go.Proofs.Ytffbfgmhfnbmfaa
open Go.RowKit

theorem Wf.verB {st : St} (h : Wf st) (hg : Good st) {k f : Nat} {v : Ver} (hk : st.slots[k]? = some (some (f, v))) : verB (enc st) f v.size = true := by
  have hv := (h.inn k f v hk).2.2
  have l0 := h.le_ver hk 0 8 (by omega)
  have l1 := h.le_ver hk 8 8 (by omega)
  have l2 := h.le_ver hk 16 8 (by omega)
  have l3 := h.le_ver hk 24 4 (by omega)
  have l4 := h.le_ver hk 28 2 (by omega)
  rw [Nat.add_zero] at l0
  unfold Ytffbfgmhfnbmfaa.verB
  rw [l0, l1, l2, l3, l4, head_row _ _ _ _ _ (by have := hv.row; omega), head_x _ _ _ _ _ (by have := hv.x; omega), head_y _ _ _ _ _ (by have := hv.y; omega), head_P _ _ _ _ _ (by have := hv.P; omega), head_S _ _ _ _ _ (by have := hv.S; omega)]
  have e30 : v.size - 30 = v.data.length := by unfold Ver.size; omega
  have hmem : some v ∈ vers st.slots := by
    refine List.mem_map.2 ⟨some (f, v), List.mem_of_getElem? hk, rfl⟩
  have hf := hg.2 v hmem
  have h1 := hv.row
  have h2 := hv.x
  have h3 := hv.y
  have h4 := hv.len
  rw [e30]
  unfold rightB
  rw [hf]
  simp
  omega

theorem getD_get {l : List Slot} {k : Nat} {s : Slot} (hk : k < l.length) (h : l.getD k none = s) : l[k]? = some s := by
  rw [List.getD_eq_getElem?_getD, List.getElem?_eq_getElem hk] at h
  rw [List.getElem?_eq_getElem hk]
  simpa using h

theorem Wf.off {st : St} (h : Wf st) {k : Nat} (hk : k < st.slots.length) : offB (enc st) k = (st.slots.getD k none).isNone := by
  unfold offB
  rw [h.siz hk, h.frm hk]
  cases hs : st.slots.getD k none with
  | none => rfl
  | some p =>
    obtain ⟨f, v⟩ := p
    have : sizeOfS (some (f, v)) = v.size := rfl
    rw [this]
    have := size_pos v
    simp
    omega

theorem enc_sound {st : St} (h : Wf st) (hg : Good st) : SoundP (enc st) := by
  have hlow := h.low
  have hhigh := h.high
  have hpart : ∀ p, p ∈ parts (enc st) st.slots.length ↔ ∃ (k f : Nat) (v : Ver), st.slots[k]? = some (some (f, v)) ∧ p = (f, f + v.size) := by
    intro p
    rw [parts_mem]
    constructor
    · rintro ⟨k, hk, ho, rfl⟩
      rw [h.off hk] at ho
      cases hs : st.slots.getD k none with
      | none => rw [hs] at ho; cases ho
      | some q =>
        obtain ⟨f, v⟩ := q
        refine ⟨k, f, v, getD_get hk hs, ?_⟩
        rw [h.frm hk, h.siz hk, hs]; rfl
    · rintro ⟨k, f, v, hk, rfl⟩
      have hkl : k < st.slots.length := (List.getElem?_eq_some_iff.1 hk).1
      have hs := getD_of hk
      refine ⟨k, hkl, by rw [h.off hkl, hs]; rfl, ?_⟩
      rw [h.frm hkl, h.siz hkl, hs]; rfl
  refine ⟨?_, ?_, ?_, ?_⟩
  · unfold frontB
    rw [h.stt, h.cnt]
    by_cases h0 : st.slots.length = 0
    · simp [h0]; omega
    · have ht := hg.1 (st.slots.length - 1) (by rw [vers_len]; omega)
      rw [vers_getD] at ht
      rw [h.siz (by omega)]
      cases hs : st.slots.getD (st.slots.length - 1) none with
      | none => rw [hs] at ht; cases ht
      | some q =>
        obtain ⟨f, v⟩ := q
        have h1 : sizeOfS (some (f, v)) = v.size := rfl
        have h2 := size_pos v
        rw [h1]
        simp
        omega
  · rw [h.cnt, allOk_iff]
    intro k hk
    unfold okB
    rw [h.off hk]
    cases hs : st.slots.getD k none with
    | none => rfl
    | some q =>
      obtain ⟨f, v⟩ := q
      have hget := getD_get hk hs
      have hin := h.inn k f v hget
      rw [h.stt, h.frm hk, h.siz hk, hs]
      have e1 : sizeOfS (some (f, v)) = v.size := rfl
      have e2 : fromOf (some (f, v)) = f := rfl
      have e3 : 30 ≤ v.size := by unfold Ver.size; omega
      rw [e1, e2, h.verB hg hget]
      simp
      omega
  · rw [h.cnt]
    have hpw : ∀ n, n ≤ st.slots.length → (parts (enc st) n).Pairwise Apart2 := by
      intro n
      induction n with
      | zero => intro _; exact .nil
      | succ n ih =>
        intro hn
        rw [parts, List.pairwise_append]
        refine ⟨ih (by omega), by split <;> simp, fun a ha b hb => ?_⟩
        split at hb
        · simp at hb
        · rename_i ho
          simp at hb
          subst hb
          obtain ⟨k, hk, ho2, rfl⟩ := (parts_mem _ _ _).1 ha
          rw [h.off (by omega)] at ho ho2
          cases hs : st.slots.getD n none with
          | none => rw [hs] at ho; simp at ho
          | some q =>
            cases hs2 : st.slots.getD k none with
            | none => rw [hs2] at ho2; simp at ho2
            | some q2 =>
              obtain ⟨f, v⟩ := q
              obtain ⟨f2, v2⟩ := q2
              rw [h.frm (k := k) (by omega), h.siz (k := k) (by omega), h.frm (k := n) (by omega), h.siz (k := n) (by omega), hs, hs2]
              exact h.apart k n f2 v2 f v hk (getD_get (by omega) hs2) (getD_get (by omega) hs)
    exact hpw _ (Nat.le_refl _)
  · rw [h.cnt]
    intro j h1 h2
    rcases dataOf_cases h.apt j with ⟨k, f, v, hk, hf1, hf2, _⟩ | ⟨_, hd⟩
    · exact .inr ⟨(f, f + v.size), (hpart _).2 ⟨k, f, v, hk, rfl⟩, hf1, hf2⟩
    · left
      show encG st.slots.length st.start st.slots (dataOf st.slots) j = 0
      rw [encG_high _ _ _ _ _ h1, hd]
end Go.Proofs.Ytffbfgmhfnbmfaa
