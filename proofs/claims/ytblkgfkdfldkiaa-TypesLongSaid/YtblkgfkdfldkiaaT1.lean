import Derived.Test.YtblkgfkdfldkiaaRows
import Derived.Test.YtblkgfkdfldkiaaT0
import Derived.WalkKit
import Derived.WalkSpells
import Derived.WalkLawsBesides
import Derived.Lib.Hide
import Derived.Lib.Strings
import Derived.Deep.RegionLaw
import Derived.Deep.QuietTactic
import Derived.BigQuiet
namespace Go.Proofs.Ytblkgfkdfldkiaa
open Go.RowKit TypesText

/-- A string's bytes. -/
abbrev tx (b : ByteArray) : Bytes := b.data.toList

theorem tx_len (b : ByteArray) : (tx b).length = b.size := (Lib.size_eq b).symm
theorem tx_from (b : ByteArray) (a : Nat) : tx (b.extract a b.size) = (tx b).drop a := by
  rw [tx, Lib.extract_data, List.take_of_length_le (by rw [List.length_drop, ← Lib.size_eq]; omega)]
theorem tx_part (b : ByteArray) (a c : Nat) : tx (b.extract a c) = ((tx b).drop a).take (c - a) := Lib.extract_data b a c

theorem pre_iff (p s : Bytes) : pre p s = (s.take p.length == p) := by
  unfold pre
  rw [Bool.eq_iff_iff, List.isPrefixOf_iff_prefix, List.prefix_iff_eq_take]
  simp only [beq_iff_eq]
  constructor <;> (intro h; exact h.symm)

set_option maxHeartbeats 400000 in
theorem hasPrefix_any (s p : ByteArray) (w : World) :
    Calls Try.prog 26 #[.string s, .string p] w fun e w' => e = .returned (.bool (pre (tx p) (tx s))) ∧ w' = w := by
  by_cases h : p.size ≤ s.size
  · have e : ((s.extract 0 p.size).toList == p.toList) = pre (tx p) (tx s) := by
      rw [pre_iff, tx_len, Lib.extract_toList, Lib.toList_data, List.drop_zero, Nat.sub_zero]
    have E := Lib.hid e
    clear e
    go_enter Try.func26, Try.ntmps26
    go_wp2
    go_ret
    exact ⟨by rw [← E.out]; rfl, rfl⟩
  · have e : pre (tx p) (tx s) = false := by
      rw [Bool.eq_false_iff]
      intro h1
      have := pre_length h1
      rw [tx_len, tx_len] at this
      exact h this
    have E := Lib.hid e
    clear e
    go_enter Try.func26, Try.ntmps26
    go_wp2
    go_ret
    exact ⟨by rw [E.out]; rfl, rfl⟩

end Go.Proofs.Ytblkgfkdfldkiaa
