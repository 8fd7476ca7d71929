import Derived.Test.YtblkgfkdfldkiaaU6
import Derived.Laws.OwnMore
namespace Go.Proofs.Ytblkgfkdfldkiaa
open Go.RowKit TypesText

theorem row_form {B : Nat} {v : Value} {xs : List Bytes} {w : World} (h : w.ownsRow B 9 1 v xs.length (xs.map strV)) (hn : 0 < xs.length) :
    ∃ g cap, v = .slice (some ⟨g, 0, none⟩) xs.length cap ∧ ∀ (j : Nat) (x : Bytes), xs[j]? = some x → w.cell? ⟨g, j, none⟩ = some (strV x) := by
  rcases h.2 with ⟨_, h2⟩ | ⟨g, cap, cur, h1, _⟩
  · omega
  · refine ⟨g, cap, h1, ?_⟩
    intro j x hx
    subst h1
    have hj : j < xs.length := (List.getElem?_eq_some_iff.1 hx).1
    rw [World.ownsRow.cellAt h j (by omega), List.getElem?_map, hx]
    rfl

def aText : ByteArray := ⟨#[102, 117, 110, 99, 40, 105, 110, 116, 44, 102, 117, 110, 99, 40, 41, 98, 111, 111, 108, 41, 91, 93, 105, 110, 116]⟩

theorem aFunc : isFunc (tx aText) = true := by decide +kernel
theorem aParts : fparts (tx aText) = ([[105, 110, 116], [102, 117, 110, 99, 40, 41, 98, 111, 111, 108]], [91, 93, 105, 110, 116]) := by decide +kernel

theorem a14 (w : World) : Calls Try.prog 14 #[.string ⟨#[102, 117, 110, 99, 40, 105, 110, 116, 44, 102, 117, 110, 99, 40, 41, 98, 111, 111, 108, 41, 91, 93, 105, 110, 116]⟩] w fun e w' =>
    ∃ g cap, e = .returned (.tuple #[.slice (some ⟨g, 0, none⟩) 2 cap, .string ⟨#[91, 93, 105, 110, 116]⟩, .bool true]) ∧ Below w.heap.size w w' ∧
      w'.cell? ⟨g, 1, none⟩ = some (.string ⟨#[102, 117, 110, 99, 40, 41, 98, 111, 111, 108]⟩) := by
  have c := func14_any aText w (by decide)
  refine c.mono ?_
  rintro e w' ⟨v, rfl, hb, ho⟩
  rw [aFunc, aParts] at *
  obtain ⟨g, cap, rfl, hc⟩ := row_form ho (by decide)
  exact ⟨g, cap, rfl, hb, hc 1 _ rfl⟩

theorem a9 (w : World) : Calls Try.prog 9 #[.string ⟨#[110, 105, 108]⟩, .string ⟨#[99, 104, 97, 110, 32, 105, 110, 116]⟩] w fun e w' => e = .returned (.bool true) ∧ Below w.heap.size w w' := by
  have c := fits_any ⟨#[110, 105, 108]⟩ ⟨#[99, 104, 97, 110, 32, 105, 110, 116]⟩ w (by decide)
  rw [show fits (tx ⟨#[110, 105, 108]⟩) (tx ⟨#[99, 104, 97, 110, 32, 105, 110, 116]⟩) = true by decide +kernel] at c
  exact c

theorem a11 (w : World) : Calls Try.prog 11 #[.string ⟨#[110, 105, 108]⟩, .string ⟨#[91, 93, 105, 110, 116]⟩] w fun e w' => e = .returned (.bool true) ∧ Below w.heap.size w w' := by
  have c := equals_any ⟨#[110, 105, 108]⟩ ⟨#[91, 93, 105, 110, 116]⟩ w (by decide) (by decide)
  rw [show equals (tx ⟨#[110, 105, 108]⟩) (tx ⟨#[91, 93, 105, 110, 116]⟩) = true by decide +kernel] at c
  exact c

theorem b11 (w : World) : Calls Try.prog 11 #[.string ⟨#[91, 93, 105, 110, 116]⟩, .string ⟨#[91, 93, 105, 110, 116]⟩] w fun e w' => e = .returned (.bool false) ∧ Below w.heap.size w w' := by
  have c := equals_any ⟨#[91, 93, 105, 110, 116]⟩ ⟨#[91, 93, 105, 110, 116]⟩ w (by decide) (by decide)
  rw [show equals (tx ⟨#[91, 93, 105, 110, 116]⟩) (tx ⟨#[91, 93, 105, 110, 116]⟩) = false by decide +kernel] at c
  exact c

theorem anchor_any (w : World) : Calls Try.prog 8 #[] w fun e w' => e = .returned (.bool true) ∧ Below w.heap.size w w' := by
  have c14 := a14
  have c9 := a9
  have c11 := a11
  have d11 := b11
  go_enter Try.func8, Try.ntmps8
  go_wp2_with (first | (with_reducible refine (c14 _).mono ?_; rintro e w1 ⟨g, cap, rfl, hb, hc⟩; have HB := Lib.hid hb; have hsz := hb.size; clear hb) | (with_reducible refine (c9 _).mono ?_; rintro e w2 ⟨rfl, hb⟩; have HB2 := Lib.hid (HB.out.trans (hb.mono hsz)); have hsz2 := Nat.le_trans hsz hb.size; clear hb) | (with_reducible refine (c11 _).mono ?_; rintro e w3 ⟨rfl, hb⟩; have HB3 := Lib.hid (HB2.out.trans (hb.mono hsz2)); have hsz3 := Nat.le_trans hsz2 hb.size; clear hb) | (with_reducible refine (d11 _).mono ?_; rintro e w4 ⟨rfl, hb⟩; have HB4 := Lib.hid (HB3.out.trans (hb.mono hsz3)); clear hb))
  go_ret
  exact ⟨rfl, HB4.out⟩

/-- The law of comparing two rows of texts. -/
theorem texts_any (xs : List Bytes) (B C : Nat) (u v : Value) (w : World) (hlen : xs.length ≤ 4000000)
    (hu : w.ownsRow B 9 1 u xs.length (xs.map strV)) (hv : w.ownsRow C 9 1 v xs.length (xs.map strV)) :
    Calls Try.prog 20 #[u, v] w fun e w' => e = .returned (.bool true) ∧ Below w.heap.size w w' := by
  obtain ⟨a, ac, rfl⟩ := ownsRow_shape hu
  obtain ⟨b, bc, rfl⟩ := ownsRow_shape hv
  have hca : ∀ (j : Nat) (x : Bytes), xs[j]? = some x → ∃ g h, a = some ⟨g, 0, none⟩ ∧ b = some ⟨h, 0, none⟩ ∧ w.cell? ⟨g, j, none⟩ = some (strV x) ∧ w.cell? ⟨h, j, none⟩ = some (strV x) := by
    intro j x hx
    have hp : 0 < xs.length := by have := (List.getElem?_eq_some_iff.1 hx).1; omega
    obtain ⟨g, cap, h1, h2⟩ := row_form hu hp
    obtain ⟨h, cap2, h3, h4⟩ := row_form hv hp
    injection h1 with h1 _ _
    injection h3 with h3 _ _
    exact ⟨g, h, h1, h3, h2 j x hx, h4 j x hx⟩
  have HC := Lib.hid hca
  clear hca hu hv
  obtain ⟨L, hL⟩ : ∃ L, xs.length = L := ⟨_, rfl⟩
  have HL := Lib.hid hL
  rw [hL] at hlen ⊢
  clear hL
  go_enter Try.func20, Try.ntmps20
  go_wp2_with fail
  go_loopw [14] (fun i wr => ∃ n : Nat, i = .int .i64 n ∧ n ≤ L ∧ Below w.heap.size w wr ∧ (∀ ad, wr.cell? ad = w.cell? ad)) (fun i _ => L - (intOf i).toNat)
  case atStart => exact ⟨0, rfl, Nat.zero_le _, Below.refl _ _, fun _ => rfl⟩
  case round =>
    obtain ⟨n, rfl, hn, hb, hcell⟩ := hrel
    have HB := Lib.hid hb
    clear hb
    by_cases hlt : n < L
    · obtain ⟨x, hx⟩ : ∃ x, xs[n]? = some x := ⟨xs[n]'(by rw [HL.out]; exact hlt), List.getElem?_eq_getElem _⟩
      obtain ⟨g, h, rfl, rfl, h1, h2⟩ := HC.out n x hx
      have k1 := (hcell _).trans h1
      have k2 := (hcell _).trans h2
      have HCE := Lib.hid hcell
      unfold strV at k1 k2
      clear hx h1 h2 hcell
      go_wp2_with fail
      go_roundw
      case rel => exact ⟨n + 1, by go_num, by omega, HB.out, HCE.out⟩
      case measure => simp [intOf]; omega
    · go_wp2_with fail
      go_ret
      exact ⟨rfl, HB.out⟩

end Go.Proofs.Ytblkgfkdfldkiaa
