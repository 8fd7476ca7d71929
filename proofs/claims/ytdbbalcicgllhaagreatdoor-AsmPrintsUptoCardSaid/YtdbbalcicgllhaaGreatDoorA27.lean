import Derived.Test.YtdbbalcicgllhaaGreatDoorA26
namespace Go.Proofs.YtdbbalcicgllhaaGreatDoor
open Go.RowKit

theorem app_bytes (x y : Bytes) (X : ByteArray) (h : X = ⟨x.toArray⟩) : X ++ (⟨y.toArray⟩ : ByteArray) = ⟨(x ++ y).toArray⟩ := by
  rw [h]
  exact ByteArray.mk_append_mk x y

set_option maxRecDepth 100000 in
set_option maxHeartbeats 3200000 in
theorem quoteRef_any (s : Bytes) (hl : s.length ≤ 100000000) (w : World) :
    Calls Tryz.prog 7 #[.string ⟨s.toArray⟩] w fun e w' => e = .returned (.string ⟨(quoteB s).toArray⟩) ∧ Upd (fun _ => False) w w' := by
  obtain ⟨S, hS⟩ : ∃ S : ByteArray, (⟨s.toArray⟩ : ByteArray) = S := ⟨_, rfl⟩
  have hsz : S.size = s.length := by rw [← hS]; simp [ByteArray.size]
  obtain ⟨n, hn⟩ : ∃ n, s.length = n := ⟨_, rfl⟩
  have hget : ∀ (i : Nat) (c : UInt8) (hlt : i < S.size), s[i]? = some c → ((S[i]'hlt).toNat : Int) = (c.toNat : Int) := by
    intro i c hlt hc
    subst hS
    have : (⟨s.toArray⟩ : ByteArray)[i]'hlt = c := by
      have h2 : s[i]'(by rw [← hsz]; exact hlt) = c := by
        rw [List.getElem?_eq_getElem (by rw [← hsz]; exact hlt)] at hc
        exact Option.some.inj hc
      exact h2
    rw [this]
  rw [hS]
  rw [hn] at hl hsz
  have HG := Lib.hid hget
  have HN := Lib.hid hn
  clear hget hS hn
  go_enter Tryz.func7, Tryz.ntmps7
  go_wp2
  go_loopw [3, 4] (fun x i wr => ∃ k : Nat, k ≤ n ∧ i = .int .i64 k ∧ ∃ X : ByteArray, x = .string X ∧ X = ⟨([34] ++ esc (s.take k)).toArray⟩ ∧ Upd (fun _ => False) w wr) (fun _ i _ => n - (intOf i).toNat)
  case atStart => exact ⟨0, Nat.zero_le _, rfl, _, rfl, rfl, Upd.refl _ _⟩
  case round =>
    obtain ⟨k, hk, rfl, X, rfl, hX, hu⟩ := hrel
    have hXs : X.size ≤ 200000001 := by
      rw [hX, size_eq, List.length_append]
      have h1 := esc_take_le s k
      have h2 := esc_len s
      have h3 := nk_le s
      have h4 := HN.out
      simp only [List.length_cons, List.length_nil]
      omega
    have x1 : ¬ 9223372036854775807 < X.size + 1 := by omega
    have x2 : ¬ 9223372036854775807 < X.size + 2 := by omega
    have x3 : ¬ 9223372036854775807 < X.size + 1 + 1 := by omega
    have y1 : X.size + 1 ≤ 9223372036854775807 := by omega
    have y2 : X.size + 2 ≤ 9223372036854775807 := by omega
    have y3 : X.size + 1 + 1 ≤ 9223372036854775807 := by omega
    have HX := Lib.hid hX
    have HU := Lib.hid hu
    clear hX hu
    by_cases hlt2 : k < n
    · have hks : k < s.length := by rw [HN.out]; exact hlt2
      obtain ⟨c, hc⟩ : ∃ c, s[k]? = some c := ⟨_, List.getElem?_eq_getElem hks⟩
      have hkS : k < S.size := by rw [hsz]; exact hlt2
      have ix := HG.out k c hkS hc
      have hstep := esc_take s k c hc
      have HST := Lib.hid hstep
      clear hstep hc hks
      by_cases c1 : c = 10
      · subst c1
        rw [show ((10 : UInt8).toNat : Int) = 10 from rfl] at ix
        go_wp2_with fail
        go_roundw
        case rel => exact ⟨k + 1, by omega, by go_num, _, rfl, by rw [HST.out, ← List.append_assoc]; exact app_bytes _ [92, 110] X HX.out, HU.out⟩
        case measure => simp [intOf]; omega
      · by_cases c2 : c = 34
        · subst c2
          rw [show ((34 : UInt8).toNat : Int) = 34 from rfl] at ix
          have cv := cv43 34 wr
          rw [show ((34 : UInt8).toNat : Int) = 34 from rfl] at cv
          go_wp2_with fail
          go_roundw
          case rel => exact ⟨k + 1, by omega, by go_num, _, rfl, by rw [HST.out, ← List.append_assoc]; exact (app_bytes _ [34] _ (app_bytes _ [92] X HX.out)).trans (by simp [esc1]), HU.out.trans (Upd.alloc _ wr _) (fun _ _ h => h)⟩
          case measure => simp [intOf]; omega
        · by_cases c3 : c = 92
          · subst c3
            rw [show ((92 : UInt8).toNat : Int) = 92 from rfl] at ix
            have cv := cv43 92 wr
            rw [show ((92 : UInt8).toNat : Int) = 92 from rfl] at cv
            go_wp2_with fail
            go_roundw
            case rel => exact ⟨k + 1, by omega, by go_num, _, rfl, by rw [HST.out, ← List.append_assoc]; exact (app_bytes _ [92] _ (app_bytes _ [92] X HX.out)).trans (by simp [esc1]), HU.out.trans (Upd.alloc _ wr _) (fun _ _ h => h)⟩
            case measure => simp [intOf]; omega
          · have cv := cv43 c wr
            obtain ⟨b, hb⟩ : ∃ b, c.toNat = b := ⟨_, rfl⟩
            have b1 : ¬ (b : Int) = 10 := fun e => c1 (UInt8.toNat_inj.1 (by rw [hb]; exact_mod_cast e))
            have b2 : ¬ (b : Int) = 34 := fun e => c2 (UInt8.toNat_inj.1 (by rw [hb]; exact_mod_cast e))
            have b3 : ¬ (b : Int) = 92 := fun e => c3 (UInt8.toNat_inj.1 (by rw [hb]; exact_mod_cast e))
            have d1 : ¬ b = 10 := by omega
            have d2 : ¬ b = 34 := by omega
            have d3 : ¬ b = 92 := by omega
            have d4 : ¬ (b = 34 ∨ b = 92) := by omega
            have d5 : ((b : Int) == 10) = false := by simpa using b1
            have d6 : ((b : Int) == 34) = false := by simpa using b2
            have d7 : ((b : Int) == 92) = false := by simpa using b3
            rw [hb] at ix cv
            have he : esc1 c = [c] := by simp [esc1, c1, c2, c3]
            have HE := Lib.hid he
            clear hb c1 c2 c3 he
            go_wp2_with fail
            go_roundw
            case rel => exact ⟨k + 1, by omega, by go_num, _, rfl, by rw [HST.out, ← List.append_assoc, HE.out]; exact app_bytes _ [c] X HX.out, HU.out.trans (Upd.alloc _ wr _) (fun _ _ h => h)⟩
            case measure => simp [intOf]; omega
    · have hkn : k = n := by omega
      have hall : s.take k = s := by rw [hkn, ← HN.out]; exact List.take_length
      have hX2 := HX.out
      rw [hall] at hX2
      have hres : X ++ (⟨#[34]⟩ : ByteArray) = ⟨(quoteB s).toArray⟩ := app_bytes _ [34] X hX2
      have HRES := Lib.hid hres
      clear hX2 hres hall
      go_wp2_with fail
      go_ret
      refine ⟨?_, HU.out⟩
      exact Eq.trans (b := Ending.returned (.string (X ++ (⟨#[34]⟩ : ByteArray)))) rfl (congrArg (fun x => Ending.returned (.string x)) HRES.out)
end Go.Proofs.YtdbbalcicgllhaaGreatDoor
