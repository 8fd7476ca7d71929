import Derived.Test.YtblkgfkdfldkiaaV4
namespace Go.Proofs.Ytblkgfkdfldkiaa
open Go.RowKit TypesText

theorem tx_app (a b : ByteArray) : tx (a ++ b) = tx a ++ tx b := by simp [tx]
theorem strV_tx (s : ByteArray) : strV (tx s) = .string s := rfl
theorem size_app (a b : ByteArray) : (a ++ b).size = a.size + b.size := by rw [← tx_len, tx_app, List.length_append, tx_len, tx_len]

theorem el_slice (t : ByteArray) (w : World) (ht : t.size ≤ 3000000) :
    Calls Try.prog 13 #[.string (⟨#[91, 93]⟩ ++ t)] w fun e w' => e = .returned (.tuple #[if isType (tx t) = true then .string t else .string ⟨#[]⟩, .bool (isType (tx t))]) ∧ Below w.heap.size w w' := by
  have c := elem_any (⟨#[91, 93]⟩ ++ t) w (by rw [size_app]; show 2 + t.size ≤ _; omega)
  rw [tx_app, show tx ⟨#[91, 93]⟩ = sSlice from rfl, elem_slice] at c
  cases hv : isType (tx t) <;> rw [hv] at c <;> exact c

theorem el_chan (t : ByteArray) (w : World) (ht : t.size ≤ 3000000) :
    Calls Try.prog 13 #[.string (⟨#[99, 104, 97, 110, 32]⟩ ++ t)] w fun e w' => e = .returned (.tuple #[if isType (tx t) = true then .string t else .string ⟨#[]⟩, .bool (isType (tx t))]) ∧ Below w.heap.size w w' := by
  have c := elem_any (⟨#[99, 104, 97, 110, 32]⟩ ++ t) w (by rw [size_app]; show 5 + t.size ≤ _; omega)
  rw [tx_app, show tx ⟨#[99, 104, 97, 110, 32]⟩ = sChan from rfl, TypesText.elem_chan] at c
  cases hv : isType (tx t) <;> rw [hv] at c <;> exact c

def mText (t u : ByteArray) : ByteArray := ⟨#[102, 117, 110, 99, 40]⟩ ++ t ++ ⟨#[44]⟩ ++ u ++ ⟨#[41]⟩ ++ t

theorem mText_tx (t u : ByteArray) : tx (mText t u) = sFunc ++ tx t ++ [44] ++ tx u ++ [41] ++ tx t := by
  unfold mText
  rw [tx_app, tx_app, tx_app, tx_app, tx_app]
  rfl

theorem mText_size (t u : ByteArray) : (mText t u).size = 5 + t.size + 1 + u.size + 1 + t.size := by
  rw [← tx_len, mText_tx]
  simp [sFunc]
  omega

theorem fn_some (t u : ByteArray) (w : World) (hs : t.size + u.size ≤ 2000) :
    Calls Try.prog 14 #[.string (⟨#[102, 117, 110, 99, 40]⟩ ++ t ++ ⟨#[44]⟩ ++ u ++ ⟨#[41]⟩ ++ t)] w fun e w' => ∃ a n c r f, e = .returned (.tuple #[.slice a n c, .string r, .bool f]) ∧ Below w.heap.size w w' := by
  refine (func14_any (mText t u) w (by rw [mText_size]; omega)).mono ?_
  rintro e w' ⟨v, rfl, hb, ho⟩
  obtain ⟨a, c, rfl⟩ := ownsRow_shape ho
  exact ⟨a, _, c, _, _, rfl, hb⟩

theorem fn_two (t u : ByteArray) (w : World) (hs : t.size + u.size ≤ 2000) (ht : isType (tx t) = true) (hu : isType (tx u) = true) :
    Calls Try.prog 14 #[.string (⟨#[102, 117, 110, 99, 40]⟩ ++ t ++ ⟨#[44]⟩ ++ u ++ ⟨#[41]⟩ ++ t)] w fun e w' => ∃ g c, e = .returned (.tuple #[.slice (some ⟨g, 0, none⟩) 2 c, .string t, .bool true]) ∧ Below w.heap.size w w' ∧
      ∀ w2 : World, Below w'.heap.size w' w2 → w2.cell? ⟨g, 0, none⟩ = some (.string t) ∧ w2.cell? ⟨g, 1, none⟩ = some (.string u) := by
  have c := func14_any (mText t u) w (by rw [mText_size]; omega)
  obtain ⟨h1, h2⟩ := makes_func ht hu
  rw [mText_tx, h1, h2] at c
  refine c.mono ?_
  rintro e w' ⟨v, rfl, hb, ho⟩
  obtain ⟨g, cap, rfl, hc⟩ := row_form ho (by simp)
  refine ⟨g, cap, rfl, hb, ?_⟩
  intro w2 hb2
  have k0 := hc 0 (tx t) rfl
  have k1 := hc 1 (tx u) rfl
  have hg := World.block_lt_of_cell? w' _ k0
  exact ⟨(Below.cell hb2 hg).trans k0, (Below.cell hb2 (p := ⟨g, 1, none⟩) hg).trans k1⟩

theorem star_all (nm : ByteArray) (h1 : 1 ≤ nm.size) (h24 : nm.size ≤ 24) (hc : ∀ c ∈ tx nm, capital c = true) :
    (∀ w, Calls Try.prog 15 #[.string (⟨#[42]⟩ ++ nm)] w fun e w' => e = .returned (.bool true) ∧ Below w.heap.size w w') ∧
    (∀ w, Calls Try.prog 16 #[.string (⟨#[42]⟩ ++ nm)] w fun e w' => e = .returned (.bool true) ∧ Below w.heap.size w w') ∧
    (∀ w, Calls Try.prog 11 #[.string (⟨#[42]⟩ ++ nm), .string (⟨#[42]⟩ ++ nm)] w fun e w' => e = .returned (.bool true) ∧ Below w.heap.size w w') := by
  have hsz : (⟨#[42]⟩ ++ nm : ByteArray).size ≤ 4000000 := by rw [size_app]; show 1 + nm.size ≤ _; omega
  have hx : tx (⟨#[42]⟩ ++ nm) = sStar ++ tx nm := by rw [tx_app]; rfl
  have hne : tx nm ≠ [] := by intro h; have := tx_len nm; rw [h] at this; simp at this; omega
  have hv := plain_ptr hne (by rw [tx_len]; exact h24) hc
  obtain ⟨hn, he⟩ := plain_more hv
  refine ⟨fun w => ?_, fun w => ?_, fun w => ?_⟩
  · have := valid_any (⟨#[42]⟩ ++ nm) w hsz
    rw [hx, hv] at this
    exact this
  · have := nilable_any (⟨#[42]⟩ ++ nm) w hsz
    rw [hx, hn] at this
    exact this
  · have := equals_any (⟨#[42]⟩ ++ nm) (⟨#[42]⟩ ++ nm) w hsz hsz
    rw [hx, he] at this
    exact this

theorem capital_iff (c : UInt8) : capital c = true ↔ (65 ≤ (c.toNat : Int) ∧ (c.toNat : Int) ≤ 90) ∨ (c.toNat : Int) = 95 := by
  have key : ∀ n : Fin 256, (capital (UInt8.ofNat n.val) = true ↔ (65 ≤ n.val ∧ n.val ≤ 90) ∨ n.val = 95) := by decide +kernel
  have := key ⟨c.toNat, c.toNat_lt⟩
  simp only [UInt8.ofNat_toNat] at this
  rw [this]
  omega

set_option maxHeartbeats 1600000 in
theorem makes_any (t u nm : ByteArray) (ht : t.size ≤ 1048576) (hu : u.size ≤ 1048576) (hnm : nm.size ≤ maxLen) (w : World) : Calls Try.prog 4 #[.string t, .string u, .string nm] w fun e w' => e = .returned (.bool true) ∧ Below w.heap.size w w' := by
  have cA := anchor_any
  have HB := Lib.hid (Below.refl w.heap.size w)
  have hsz := Nat.le_refl w.heap.size
  have hnm2 : nm.size ≤ 9223372036854775807 := by unfold maxLen at hnm; omega
  have htu : t.size + u.size ≤ 9223372036854775807 := by omega
  clear hnm ht hu
  by_cases hs : t.size + u.size ≤ 2000
  · have c13 := fun w1 => el_slice t w1 (by omega)
    have d13 := fun w1 => el_chan t w1 (by omega)
    have c15 := fun w1 => valid_any t w1 (by omega)
    have d15 := fun w1 => valid_any u w1 (by omega)
    cases hv : isType (tx t)
    case false =>
      have c14 := fun w1 => fn_some t u w1 hs
      rw [hv] at c13 d13 c15
      clear hv
      simp only [Bool.false_eq_true, if_false] at c13 d13

      by_cases h1 : 1 ≤ nm.size
      · go_enter Try.func4, Try.ntmps4
        go_wp2_with (first | (with_reducible refine (cA _).mono ?_; rintro e w' ⟨rfl, hb⟩; have HB := Lib.hid (HB.out.trans (hb.mono hsz)); have hsz := Nat.le_trans hsz hb.size; clear hb) | (with_reducible refine (c13 _).mono ?_; rintro e w' ⟨rfl, hb⟩; have HB := Lib.hid (HB.out.trans (hb.mono hsz)); have hsz := Nat.le_trans hsz hb.size; clear hb) | (with_reducible refine (d13 _).mono ?_; rintro e w' ⟨rfl, hb⟩; have HB := Lib.hid (HB.out.trans (hb.mono hsz)); have hsz := Nat.le_trans hsz hb.size; clear hb) | (with_reducible refine (c14 _).mono ?_; rintro e w' ⟨a, n, c, r, f, rfl, hb⟩; have HB := Lib.hid (HB.out.trans (hb.mono hsz)); have hsz := Nat.le_trans hsz hb.size; clear hb) | (with_reducible refine (c15 _).mono ?_; rintro e w' ⟨rfl, hb⟩; have HB := Lib.hid (HB.out.trans (hb.mono hsz)); have hsz := Nat.le_trans hsz hb.size; clear hb))
        go_loopw [112, 14] (fun i v wr => ∃ (n : Nat) (b : Bool), i = .int .i64 n ∧ v = .bool b ∧ n ≤ nm.size ∧ (b = true → 1 ≤ nm.size ∧ nm.size ≤ 24 ∧ ∀ c ∈ (tx nm).take n, capital c = true) ∧ Below w.heap.size w wr) (fun i _ _ => nm.size - (intOf i).toNat)
        case atStart =>
          refine ⟨0, _, rfl, rfl, by omega, ?_, HB.out⟩
          intro hb
          simp at hb
          exact ⟨h1, by omega, by simp⟩
        case round =>
          obtain ⟨n, b, rfl, rfl, hn, hb, hbel⟩ := hrel
          have HB := Lib.hid hbel
          have hsz := hbel.size
          have HP := Lib.hid hb
          clear hbel hb
          by_cases hlt : n < nm.size
          · cases b
            case false =>
              go_wp2_with fail
              go_roundw
              case rel => exact ⟨n + 1, false, by go_num, by first | trivial | rfl, by omega, by simp, HB.out⟩
              case measure => simp [intOf]; omega
            case true =>
              have hat := tx_at nm n hlt
              have hci := capital_iff nm[n]
              have HN : Hid (capital nm[n] = true → ∀ c ∈ (tx nm).take (n + 1), capital c = true) := by
                intro hcc c hcm
                rw [List.take_add_one, List.mem_append] at hcm
                rcases hcm with hcm | hcm
                · exact (HP.out rfl).2.2 c hcm
                · have h5 : (tx nm)[n]? = some nm[n] := by
                    have h6 := congrArg List.head? hat
                    rwa [List.head?_drop, List.head?_cons] at h6
                  rw [h5] at hcm
                  simp at hcm
                  rw [hcm]
                  exact hcc
              clear hat
              obtain ⟨x, hx⟩ : ∃ x, nm[n] = x := ⟨_, rfl⟩
              rw [hx] at hci HN
              cases hcap : capital x with
              | true =>
                rcases hci.1 hcap with ⟨lo, hi⟩ | eq
                · clear hci
                  go_wp2_with fail
                  go_roundw
                  case rel => exact ⟨n + 1, true, by go_num, by first | trivial | rfl, by omega, fun _ => ⟨h1, (HP.out rfl).2.1, HN.out hcap⟩, HB.out⟩
                  case measure => simp [intOf]; omega
                · clear hci
                  go_wp2_with fail
                  go_roundw
                  case rel => exact ⟨n + 1, true, by go_num, by first | trivial | rfl, by omega, fun _ => ⟨h1, (HP.out rfl).2.1, HN.out hcap⟩, HB.out⟩
                  case measure => simp [intOf]; omega
              | false =>
                have hno : ¬ ((65 ≤ (x.toNat : Int) ∧ (x.toNat : Int) ≤ 90) ∨ (x.toNat : Int) = 95) := fun h => by have := hci.2 h; rw [hcap] at this; cases this
                have hne : ¬ (x.toNat : Int) = 95 := fun h => hno (.inr h)
                by_cases lo : 65 ≤ (x.toNat : Int)
                · have hi : ¬ (x.toNat : Int) ≤ 90 := fun h => hno (.inl ⟨lo, h⟩)
                  clear hci hno
                  go_wp2_with fail
                  go_roundw
                  case rel => exact ⟨n + 1, false, by go_num, congrArg Value.bool (by simpa using hne), by omega, by simp, HB.out⟩
                  case measure => simp [intOf]; omega
                · clear hci hno
                  go_wp2_with fail
                  go_roundw
                  case rel => exact ⟨n + 1, false, by go_num, congrArg Value.bool (by simpa using hne), by omega, by simp, HB.out⟩
                  case measure => simp [intOf]; omega
          · cases b
            case false =>
              go_wp2_with fail
              go_ret
              exact ⟨rfl, HB.out⟩
            case true =>
              obtain ⟨p1, p2, p3⟩ := HP.out rfl
              obtain ⟨e15, e16, e11⟩ := star_all nm p1 p2 (by rw [List.take_of_length_le (by rw [tx_len]; omega)] at p3; exact p3)
              have hsm : nm.size ≤ 24 := p2
              clear p1 p2 p3
              go_wp2_with (first | (with_reducible refine (e15 _).mono ?_; rintro e w' ⟨rfl, hb⟩; have HB := Lib.hid (HB.out.trans (hb.mono hsz)); have hsz := Nat.le_trans hsz hb.size; clear hb) | (with_reducible refine (e16 _).mono ?_; rintro e w' ⟨rfl, hb⟩; have HB := Lib.hid (HB.out.trans (hb.mono hsz)); have hsz := Nat.le_trans hsz hb.size; clear hb) | (with_reducible refine (e11 _).mono ?_; rintro e w' ⟨rfl, hb⟩; have HB := Lib.hid (HB.out.trans (hb.mono hsz)); have hsz := Nat.le_trans hsz hb.size; clear hb))
              go_ret
              exact ⟨rfl, HB.out⟩
      · have h0 : nm.size = 0 := by omega
        go_enter Try.func4, Try.ntmps4
        go_wp2_with (first | (with_reducible refine (cA _).mono ?_; rintro e w' ⟨rfl, hb⟩; have HB := Lib.hid (HB.out.trans (hb.mono hsz)); have hsz := Nat.le_trans hsz hb.size; clear hb) | (with_reducible refine (c13 _).mono ?_; rintro e w' ⟨rfl, hb⟩; have HB := Lib.hid (HB.out.trans (hb.mono hsz)); have hsz := Nat.le_trans hsz hb.size; clear hb) | (with_reducible refine (d13 _).mono ?_; rintro e w' ⟨rfl, hb⟩; have HB := Lib.hid (HB.out.trans (hb.mono hsz)); have hsz := Nat.le_trans hsz hb.size; clear hb) | (with_reducible refine (c14 _).mono ?_; rintro e w' ⟨a, n, c, r, f, rfl, hb⟩; have HB := Lib.hid (HB.out.trans (hb.mono hsz)); have hsz := Nat.le_trans hsz hb.size; clear hb) | (with_reducible refine (c15 _).mono ?_; rintro e w' ⟨rfl, hb⟩; have HB := Lib.hid (HB.out.trans (hb.mono hsz)); have hsz := Nat.le_trans hsz hb.size; clear hb))
        go_loopw [112, 14] (fun i v wr => i = .int .i64 0 ∧ v = .bool false ∧ Below w.heap.size w wr) (fun i _ _ => nm.size - (intOf i).toNat)
        case atStart => exact ⟨rfl, rfl, HB.out⟩
        case round =>
          obtain ⟨rfl, rfl, hbel⟩ := hrel
          have HB := Lib.hid hbel
          clear hbel
          go_wp2_with fail
          go_ret
          exact ⟨rfl, HB.out⟩
    case true =>
      cases hu : isType (tx u)
      case false =>
        have c14 := fun w1 => fn_some t u w1 hs
        rw [hv] at c13 d13 c15
        rw [hu] at d15
        clear hv hu
        simp only [if_true] at c13 d13

        by_cases h1 : 1 ≤ nm.size
        · go_enter Try.func4, Try.ntmps4
          go_wp2_with (first | (with_reducible refine (cA _).mono ?_; rintro e w' ⟨rfl, hb⟩; have HB := Lib.hid (HB.out.trans (hb.mono hsz)); have hsz := Nat.le_trans hsz hb.size; clear hb) | (with_reducible refine (c13 _).mono ?_; rintro e w' ⟨rfl, hb⟩; have HB := Lib.hid (HB.out.trans (hb.mono hsz)); have hsz := Nat.le_trans hsz hb.size; clear hb) | (with_reducible refine (d13 _).mono ?_; rintro e w' ⟨rfl, hb⟩; have HB := Lib.hid (HB.out.trans (hb.mono hsz)); have hsz := Nat.le_trans hsz hb.size; clear hb) | (with_reducible refine (c14 _).mono ?_; rintro e w' ⟨a, n, c, r, f, rfl, hb⟩; have HB := Lib.hid (HB.out.trans (hb.mono hsz)); have hsz := Nat.le_trans hsz hb.size; clear hb) | (with_reducible refine (d15 _).mono ?_; rintro e w' ⟨rfl, hb⟩; have HB := Lib.hid (HB.out.trans (hb.mono hsz)); have hsz := Nat.le_trans hsz hb.size; clear hb) | (with_reducible refine (c15 _).mono ?_; rintro e w' ⟨rfl, hb⟩; have HB := Lib.hid (HB.out.trans (hb.mono hsz)); have hsz := Nat.le_trans hsz hb.size; clear hb))
          go_loopw [112, 14] (fun i v wr => ∃ (n : Nat) (b : Bool), i = .int .i64 n ∧ v = .bool b ∧ n ≤ nm.size ∧ (b = true → 1 ≤ nm.size ∧ nm.size ≤ 24 ∧ ∀ c ∈ (tx nm).take n, capital c = true) ∧ Below w.heap.size w wr) (fun i _ _ => nm.size - (intOf i).toNat)
          case atStart =>
            refine ⟨0, _, rfl, rfl, by omega, ?_, HB.out⟩
            intro hb
            simp at hb
            exact ⟨h1, by omega, by simp⟩
          case round =>
            obtain ⟨n, b, rfl, rfl, hn, hb, hbel⟩ := hrel
            have HB := Lib.hid hbel
            have hsz := hbel.size
            have HP := Lib.hid hb
            clear hbel hb
            by_cases hlt : n < nm.size
            · cases b
              case false =>
                go_wp2_with fail
                go_roundw
                case rel => exact ⟨n + 1, false, by go_num, by first | trivial | rfl, by omega, by simp, HB.out⟩
                case measure => simp [intOf]; omega
              case true =>
                have hat := tx_at nm n hlt
                have hci := capital_iff nm[n]
                have HN : Hid (capital nm[n] = true → ∀ c ∈ (tx nm).take (n + 1), capital c = true) := by
                  intro hcc c hcm
                  rw [List.take_add_one, List.mem_append] at hcm
                  rcases hcm with hcm | hcm
                  · exact (HP.out rfl).2.2 c hcm
                  · have h5 : (tx nm)[n]? = some nm[n] := by
                      have h6 := congrArg List.head? hat
                      rwa [List.head?_drop, List.head?_cons] at h6
                    rw [h5] at hcm
                    simp at hcm
                    rw [hcm]
                    exact hcc
                clear hat
                obtain ⟨x, hx⟩ : ∃ x, nm[n] = x := ⟨_, rfl⟩
                rw [hx] at hci HN
                cases hcap : capital x with
                | true =>
                  rcases hci.1 hcap with ⟨lo, hi⟩ | eq
                  · clear hci
                    go_wp2_with fail
                    go_roundw
                    case rel => exact ⟨n + 1, true, by go_num, by first | trivial | rfl, by omega, fun _ => ⟨h1, (HP.out rfl).2.1, HN.out hcap⟩, HB.out⟩
                    case measure => simp [intOf]; omega
                  · clear hci
                    go_wp2_with fail
                    go_roundw
                    case rel => exact ⟨n + 1, true, by go_num, by first | trivial | rfl, by omega, fun _ => ⟨h1, (HP.out rfl).2.1, HN.out hcap⟩, HB.out⟩
                    case measure => simp [intOf]; omega
                | false =>
                  have hno : ¬ ((65 ≤ (x.toNat : Int) ∧ (x.toNat : Int) ≤ 90) ∨ (x.toNat : Int) = 95) := fun h => by have := hci.2 h; rw [hcap] at this; cases this
                  have hne : ¬ (x.toNat : Int) = 95 := fun h => hno (.inr h)
                  by_cases lo : 65 ≤ (x.toNat : Int)
                  · have hi : ¬ (x.toNat : Int) ≤ 90 := fun h => hno (.inl ⟨lo, h⟩)
                    clear hci hno
                    go_wp2_with fail
                    go_roundw
                    case rel => exact ⟨n + 1, false, by go_num, congrArg Value.bool (by simpa using hne), by omega, by simp, HB.out⟩
                    case measure => simp [intOf]; omega
                  · clear hci hno
                    go_wp2_with fail
                    go_roundw
                    case rel => exact ⟨n + 1, false, by go_num, congrArg Value.bool (by simpa using hne), by omega, by simp, HB.out⟩
                    case measure => simp [intOf]; omega
            · cases b
              case false =>
                go_wp2_with fail
                go_ret
                exact ⟨rfl, HB.out⟩
              case true =>
                obtain ⟨p1, p2, p3⟩ := HP.out rfl
                obtain ⟨e15, e16, e11⟩ := star_all nm p1 p2 (by rw [List.take_of_length_le (by rw [tx_len]; omega)] at p3; exact p3)
                have hsm : nm.size ≤ 24 := p2
                clear p1 p2 p3
                go_wp2_with (first | (with_reducible refine (e15 _).mono ?_; rintro e w' ⟨rfl, hb⟩; have HB := Lib.hid (HB.out.trans (hb.mono hsz)); have hsz := Nat.le_trans hsz hb.size; clear hb) | (with_reducible refine (e16 _).mono ?_; rintro e w' ⟨rfl, hb⟩; have HB := Lib.hid (HB.out.trans (hb.mono hsz)); have hsz := Nat.le_trans hsz hb.size; clear hb) | (with_reducible refine (e11 _).mono ?_; rintro e w' ⟨rfl, hb⟩; have HB := Lib.hid (HB.out.trans (hb.mono hsz)); have hsz := Nat.le_trans hsz hb.size; clear hb))
                go_ret
                exact ⟨rfl, HB.out⟩
        · have h0 : nm.size = 0 := by omega
          go_enter Try.func4, Try.ntmps4
          go_wp2_with (first | (with_reducible refine (cA _).mono ?_; rintro e w' ⟨rfl, hb⟩; have HB := Lib.hid (HB.out.trans (hb.mono hsz)); have hsz := Nat.le_trans hsz hb.size; clear hb) | (with_reducible refine (c13 _).mono ?_; rintro e w' ⟨rfl, hb⟩; have HB := Lib.hid (HB.out.trans (hb.mono hsz)); have hsz := Nat.le_trans hsz hb.size; clear hb) | (with_reducible refine (d13 _).mono ?_; rintro e w' ⟨rfl, hb⟩; have HB := Lib.hid (HB.out.trans (hb.mono hsz)); have hsz := Nat.le_trans hsz hb.size; clear hb) | (with_reducible refine (c14 _).mono ?_; rintro e w' ⟨a, n, c, r, f, rfl, hb⟩; have HB := Lib.hid (HB.out.trans (hb.mono hsz)); have hsz := Nat.le_trans hsz hb.size; clear hb) | (with_reducible refine (d15 _).mono ?_; rintro e w' ⟨rfl, hb⟩; have HB := Lib.hid (HB.out.trans (hb.mono hsz)); have hsz := Nat.le_trans hsz hb.size; clear hb) | (with_reducible refine (c15 _).mono ?_; rintro e w' ⟨rfl, hb⟩; have HB := Lib.hid (HB.out.trans (hb.mono hsz)); have hsz := Nat.le_trans hsz hb.size; clear hb))
          go_loopw [112, 14] (fun i v wr => i = .int .i64 0 ∧ v = .bool false ∧ Below w.heap.size w wr) (fun i _ _ => nm.size - (intOf i).toNat)
          case atStart => exact ⟨rfl, rfl, HB.out⟩
          case round =>
            obtain ⟨rfl, rfl, hbel⟩ := hrel
            have HB := Lib.hid hbel
            clear hbel
            go_wp2_with fail
            go_ret
            exact ⟨rfl, HB.out⟩
      case true =>
        have c14 := fun w1 => fn_two t u w1 hs hv hu
        rw [hv] at c13 d13 c15
        rw [hu] at d15
        clear hv hu
        simp only [if_true] at c13 d13

        by_cases h1 : 1 ≤ nm.size
        · go_enter Try.func4, Try.ntmps4
          go_wp2_with (first | (with_reducible refine (cA _).mono ?_; rintro e w' ⟨rfl, hb⟩; have HB := Lib.hid (HB.out.trans (hb.mono hsz)); have hsz := Nat.le_trans hsz hb.size; clear hb) | (with_reducible refine (c13 _).mono ?_; rintro e w' ⟨rfl, hb⟩; have HB := Lib.hid (HB.out.trans (hb.mono hsz)); have hsz := Nat.le_trans hsz hb.size; clear hb) | (with_reducible refine (d13 _).mono ?_; rintro e w' ⟨rfl, hb⟩; have HB := Lib.hid (HB.out.trans (hb.mono hsz)); have hsz := Nat.le_trans hsz hb.size; clear hb) | (with_reducible refine (c14 _).mono ?_; rintro e w' ⟨g, c, rfl, hb, hcells⟩; have HB := Lib.hid (HB.out.trans (hb.mono hsz)); have HC := Lib.hid hcells; have HBB := Lib.hid (Below.refl w'.heap.size w'); have hszz := Nat.le_refl w'.heap.size; clear hcells; have hsz := Nat.le_trans hsz hb.size; clear hb) | (with_reducible refine (c15 _).mono ?_; rintro e w' ⟨rfl, hb⟩; have HB := Lib.hid (HB.out.trans (hb.mono hsz)); have hsz := Nat.le_trans hsz hb.size; have HBB := Lib.hid (HBB.out.trans (hb.mono hszz)); have hszz := Nat.le_trans hszz hb.size; clear hb) | (with_reducible refine (d15 _).mono ?_; rintro e w' ⟨rfl, hb⟩; have HB := Lib.hid (HB.out.trans (hb.mono hsz)); have hsz := Nat.le_trans hsz hb.size; have HBB := Lib.hid (HBB.out.trans (hb.mono hszz)); have hk0 := (HC.out _ HBB.out).1; have hk1 := (HC.out _ HBB.out).2; clear hb))
          go_loopw [112, 14] (fun i v wr => ∃ (n : Nat) (b : Bool), i = .int .i64 n ∧ v = .bool b ∧ n ≤ nm.size ∧ (b = true → 1 ≤ nm.size ∧ nm.size ≤ 24 ∧ ∀ c ∈ (tx nm).take n, capital c = true) ∧ Below w.heap.size w wr) (fun i _ _ => nm.size - (intOf i).toNat)
          case atStart =>
            refine ⟨0, _, rfl, rfl, by omega, ?_, HB.out⟩
            intro hb
            simp at hb
            exact ⟨h1, by omega, by simp⟩
          case round =>
            obtain ⟨n, b, rfl, rfl, hn, hb, hbel⟩ := hrel
            have HB := Lib.hid hbel
            have hsz := hbel.size
            have HP := Lib.hid hb
            clear hbel hb
            by_cases hlt : n < nm.size
            · cases b
              case false =>
                go_wp2_with fail
                go_roundw
                case rel => exact ⟨n + 1, false, by go_num, by first | trivial | rfl, by omega, by simp, HB.out⟩
                case measure => simp [intOf]; omega
              case true =>
                have hat := tx_at nm n hlt
                have hci := capital_iff nm[n]
                have HN : Hid (capital nm[n] = true → ∀ c ∈ (tx nm).take (n + 1), capital c = true) := by
                  intro hcc c hcm
                  rw [List.take_add_one, List.mem_append] at hcm
                  rcases hcm with hcm | hcm
                  · exact (HP.out rfl).2.2 c hcm
                  · have h5 : (tx nm)[n]? = some nm[n] := by
                      have h6 := congrArg List.head? hat
                      rwa [List.head?_drop, List.head?_cons] at h6
                    rw [h5] at hcm
                    simp at hcm
                    rw [hcm]
                    exact hcc
                clear hat
                obtain ⟨x, hx⟩ : ∃ x, nm[n] = x := ⟨_, rfl⟩
                rw [hx] at hci HN
                cases hcap : capital x with
                | true =>
                  rcases hci.1 hcap with ⟨lo, hi⟩ | eq
                  · clear hci
                    go_wp2_with fail
                    go_roundw
                    case rel => exact ⟨n + 1, true, by go_num, by first | trivial | rfl, by omega, fun _ => ⟨h1, (HP.out rfl).2.1, HN.out hcap⟩, HB.out⟩
                    case measure => simp [intOf]; omega
                  · clear hci
                    go_wp2_with fail
                    go_roundw
                    case rel => exact ⟨n + 1, true, by go_num, by first | trivial | rfl, by omega, fun _ => ⟨h1, (HP.out rfl).2.1, HN.out hcap⟩, HB.out⟩
                    case measure => simp [intOf]; omega
                | false =>
                  have hno : ¬ ((65 ≤ (x.toNat : Int) ∧ (x.toNat : Int) ≤ 90) ∨ (x.toNat : Int) = 95) := fun h => by have := hci.2 h; rw [hcap] at this; cases this
                  have hne : ¬ (x.toNat : Int) = 95 := fun h => hno (.inr h)
                  by_cases lo : 65 ≤ (x.toNat : Int)
                  · have hi : ¬ (x.toNat : Int) ≤ 90 := fun h => hno (.inl ⟨lo, h⟩)
                    clear hci hno
                    go_wp2_with fail
                    go_roundw
                    case rel => exact ⟨n + 1, false, by go_num, congrArg Value.bool (by simpa using hne), by omega, by simp, HB.out⟩
                    case measure => simp [intOf]; omega
                  · clear hci hno
                    go_wp2_with fail
                    go_roundw
                    case rel => exact ⟨n + 1, false, by go_num, congrArg Value.bool (by simpa using hne), by omega, by simp, HB.out⟩
                    case measure => simp [intOf]; omega
            · cases b
              case false =>
                go_wp2_with fail
                go_ret
                exact ⟨rfl, HB.out⟩
              case true =>
                obtain ⟨p1, p2, p3⟩ := HP.out rfl
                obtain ⟨e15, e16, e11⟩ := star_all nm p1 p2 (by rw [List.take_of_length_le (by rw [tx_len]; omega)] at p3; exact p3)
                have hsm : nm.size ≤ 24 := p2
                clear p1 p2 p3
                go_wp2_with (first | (with_reducible refine (e15 _).mono ?_; rintro e w' ⟨rfl, hb⟩; have HB := Lib.hid (HB.out.trans (hb.mono hsz)); have hsz := Nat.le_trans hsz hb.size; clear hb) | (with_reducible refine (e16 _).mono ?_; rintro e w' ⟨rfl, hb⟩; have HB := Lib.hid (HB.out.trans (hb.mono hsz)); have hsz := Nat.le_trans hsz hb.size; clear hb) | (with_reducible refine (e11 _).mono ?_; rintro e w' ⟨rfl, hb⟩; have HB := Lib.hid (HB.out.trans (hb.mono hsz)); have hsz := Nat.le_trans hsz hb.size; clear hb))
                go_ret
                exact ⟨rfl, HB.out⟩
        · have h0 : nm.size = 0 := by omega
          go_enter Try.func4, Try.ntmps4
          go_wp2_with (first | (with_reducible refine (cA _).mono ?_; rintro e w' ⟨rfl, hb⟩; have HB := Lib.hid (HB.out.trans (hb.mono hsz)); have hsz := Nat.le_trans hsz hb.size; clear hb) | (with_reducible refine (c13 _).mono ?_; rintro e w' ⟨rfl, hb⟩; have HB := Lib.hid (HB.out.trans (hb.mono hsz)); have hsz := Nat.le_trans hsz hb.size; clear hb) | (with_reducible refine (d13 _).mono ?_; rintro e w' ⟨rfl, hb⟩; have HB := Lib.hid (HB.out.trans (hb.mono hsz)); have hsz := Nat.le_trans hsz hb.size; clear hb) | (with_reducible refine (c14 _).mono ?_; rintro e w' ⟨g, c, rfl, hb, hcells⟩; have HB := Lib.hid (HB.out.trans (hb.mono hsz)); have HC := Lib.hid hcells; have HBB := Lib.hid (Below.refl w'.heap.size w'); have hszz := Nat.le_refl w'.heap.size; clear hcells; have hsz := Nat.le_trans hsz hb.size; clear hb) | (with_reducible refine (c15 _).mono ?_; rintro e w' ⟨rfl, hb⟩; have HB := Lib.hid (HB.out.trans (hb.mono hsz)); have hsz := Nat.le_trans hsz hb.size; have HBB := Lib.hid (HBB.out.trans (hb.mono hszz)); have hszz := Nat.le_trans hszz hb.size; clear hb) | (with_reducible refine (d15 _).mono ?_; rintro e w' ⟨rfl, hb⟩; have HB := Lib.hid (HB.out.trans (hb.mono hsz)); have hsz := Nat.le_trans hsz hb.size; have HBB := Lib.hid (HBB.out.trans (hb.mono hszz)); have hk0 := (HC.out _ HBB.out).1; have hk1 := (HC.out _ HBB.out).2; clear hb))
          go_loopw [112, 14] (fun i v wr => i = .int .i64 0 ∧ v = .bool false ∧ Below w.heap.size w wr) (fun i _ _ => nm.size - (intOf i).toNat)
          case atStart => exact ⟨rfl, rfl, HB.out⟩
          case round =>
            obtain ⟨rfl, rfl, hbel⟩ := hrel
            have HB := Lib.hid hbel
            clear hbel
            go_wp2_with fail
            go_ret
            exact ⟨rfl, HB.out⟩
  · go_enter Try.func4, Try.ntmps4
    go_wp2_with (with_reducible refine (cA _).mono ?_; rintro e w' ⟨rfl, hb⟩; have HB := Lib.hid (HB.out.trans (hb.mono hsz)); have hsz := Nat.le_trans hsz hb.size; clear hb)
    go_ret
    exact ⟨rfl, HB.out⟩

end Go.Proofs.Ytblkgfkdfldkiaa
