import Derived.Test.YtdbbalcicgllhaaGreatDoorA10
import Derived.Lib.Bytealg
namespace Go.Proofs.YtdbbalcicgllhaaGreatDoor
open Go.RowKit

def isKey (c : UInt8) : Bool := c == 92 || c == 34 || c == 10
def esc (s : Bytes) : Bytes := (s.map esc1).flatten
def nk (s : Bytes) : Nat := s.countP isKey

theorem isKey_mem (c : UInt8) : isKey c = true ↔ c ∈ keys.take 3 := by
  show _ ↔ c ∈ keys
  simp [isKey, keys, or_assoc]

theorem esc1_off {c : UInt8} (h : isKey c = false) : esc1 c = [c] := by
  simp [isKey] at h
  simp [esc1, h]
theorem esc1_on {c : UInt8} (h : isKey c = true) : ∃ x y, esc1 c = [x, y] := by
  simp [isKey] at h
  rcases h with (rfl | rfl) | rfl
  · exact ⟨_, _, rfl⟩
  · exact ⟨_, _, rfl⟩
  · exact ⟨_, _, rfl⟩
theorem esc1_len (c : UInt8) : (esc1 c).length = if isKey c then 2 else 1 := by
  by_cases h : isKey c = true
  · obtain ⟨x, y, e⟩ := esc1_on h
    simp [e, h]
  · have h : isKey c = false := by simpa using h
    simp [esc1_off h, h]

theorem esc_cons (c : UInt8) (s : Bytes) : esc (c :: s) = esc1 c ++ esc s := by simp [esc]
theorem esc_append (s t : Bytes) : esc (s ++ t) = esc s ++ esc t := by simp [esc]
theorem esc_take (s : Bytes) (i : Nat) (c : UInt8) (h : s[i]? = some c) : esc (s.take (i + 1)) = esc (s.take i) ++ esc1 c := by
  rw [List.take_add_one, h, esc_append]
  simp [esc]
theorem esc_len (s : Bytes) : (esc s).length = s.length + nk s := by
  induction s with
  | nil => rfl
  | cons c s ih =>
    rw [esc_cons, List.length_append, ih, esc1_len]
    unfold nk
    rw [List.countP_cons]
    split <;> simp <;> omega
theorem esc_take_le (s : Bytes) (i : Nat) : (esc (s.take i)).length ≤ (esc s).length := by
  have h : esc s = esc (s.take i) ++ esc (s.drop i) := by rw [← esc_append, List.take_append_drop]
  rw [h, List.length_append]
  omega
theorem nk_le (s : Bytes) : nk s ≤ s.length := List.countP_le_length
theorem nk_take (s : Bytes) (i : Nat) (c : UInt8) (h : s[i]? = some c) : nk (s.take (i + 1)) = nk (s.take i) + (if isKey c then 1 else 0) := by
  unfold nk
  rw [List.take_add_one, h, List.countP_append]
  simp
theorem nk_zero {s : Bytes} (h : nk s = 0) : esc s = s := by
  induction s with
  | nil => rfl
  | cons c s ih =>
    unfold nk at h ih
    rw [List.countP_cons] at h
    have hc : isKey c = false := by
      by_cases h' : isKey c = true
      · simp [h'] at h
      · simpa using h'
    rw [esc_cons, ih (by omega), esc1_off hc]
    rfl
def cnt (s : Bytes) : Nat → Nat
  | 0 => 0
  | 1 => s.count 92
  | 2 => s.count 92 + s.count 34
  | _ => s.count 92 + s.count 34 + s.count 10
theorem cnt_nk (s : Bytes) : cnt s 3 = nk s := by
  show s.count 92 + s.count 34 + s.count 10 = nk s
  induction s with
  | nil => rfl
  | cons c s ih =>
    unfold nk at ih ⊢
    simp only [List.count_cons, List.countP_cons]
    by_cases h1 : c = 92
    · subst h1
      simp [isKey]
      omega
    · by_cases h2 : c = 34
      · subst h2
        simp [isKey]
        omega
      · by_cases h3 : c = 10
        · subst h3
          simp [isKey]
          omega
        · simp [isKey, h1, h2, h3]
          omega
theorem count_le (s : Bytes) (c : UInt8) : Lib.countByte s c ≤ s.length := List.count_le_length

/-- What stands at a byte's place. -/
theorem BI.look {Y Z : Nat} {w : World} (h : BI Y Z 3 w) (c : UInt8) :
    (isKey c = false → w.cell? ⟨Y, c.toNat, none⟩ = some (.slice none 0 0)) ∧
    (isKey c = true → ∃ (g cp : Nat) (bs : Array Value) (fr : Nat × Nat) (x y : UInt8), w.cell? ⟨Y, c.toNat, none⟩ = some (.slice (some ⟨g, 0, none⟩) 2 cp) ∧ esc1 c = [x, y] ∧ w.heap[g]? = some (.cells bs 5 fr) ∧ bs[0]? = some (.int .u8 x.toNat) ∧ bs[1]? = some (.int .u8 y.toNat)) := by
  obtain ⟨⟨arr, hy, hys, h256, hcs⟩, _⟩ := h
  obtain ⟨v, hv, hr⟩ := hcs c.toNat c.toNat_lt
  rw [UInt8.ofNat_toNat] at hr
  have hcell : w.cell? ⟨Y, c.toNat, none⟩ = some v := by simp [World.cell?, hy, hv]
  constructor
  · intro hk
    rw [if_neg (fun hm => by rw [(isKey_mem c).2 hm] at hk; exact absurd hk (by decide))] at hr
    have hr : v = .slice none 0 0 := hr
    rw [hcell, hr]
  · intro hk
    rw [if_pos ((isKey_mem c).1 hk)] at hr
    obtain ⟨x, y, e⟩ := esc1_on hk
    rw [e] at hr
    obtain ⟨g, cp, bs, fr, rfl, hg, hb⟩ := hr
    exact ⟨g, cp, bs, fr, x, y, hcell, e, hg, hb 0 x rfl, hb 1 y rfl⟩
end Go.Proofs.YtdbbalcicgllhaaGreatDoor
