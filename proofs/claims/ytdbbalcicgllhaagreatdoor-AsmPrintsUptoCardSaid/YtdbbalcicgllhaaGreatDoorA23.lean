import Derived.Test.YtdbbalcicgllhaaGreatDoorA22
namespace Go.Proofs.YtdbbalcicgllhaaGreatDoor
open Go.RowKit

def mainB : ByteArray := ⟨#[109, 97, 105, 110]⟩
theorem p0_rows (W : World) (s : Nat) (hs : s + 4 ≤ W.heap.size) (h1 : W.heap[s]? = some (.cells #[.string ⟨#[97]⟩] 9 (0, 0))) (h2 : W.heap[s + 1]? = some (.cells #[.bool true] 4 (0, 0)))
    (h3 : W.heap[s + 2]? = some (.cells #[.int .i64 2, .int .i64 0, .int .i64 0, .int .i64 0, .int .i64 0, .slice none 0 0, .int .i64 48, .int .i64 (-1), .int .i64 0, .int .i64 0, .int .i64 0, .slice none 0 0] 34 (0, 0)))
    (h4 : W.heap[s + 3]? = some (.cells #[.string ⟨#[109, 97, 105, 110]⟩, .slice (some ⟨s + 1, 0, none⟩) 1 1, .int .i64 0, .int .i64 0, .bool false, .slice (some ⟨s + 2, 0, none⟩) 2 2] 31 (0, 0))) :
    RowV DStr 1 W (fun k => s ≤ k ∧ k < s + 4) (.slice (some ⟨s, 0, none⟩) 1 1) p0.texts ∧ RowV DFn 6 W (fun k => s ≤ k ∧ k < s + 4) (.slice (some ⟨s + 3, 0, none⟩) 1 1) p0.funcs := by
  have hi : ∀ i, i < 1 → i = 0 := fun i h => by omega
  have hrefs : RowV DBool 1 W (fun k => s ≤ k ∧ k < s + 4) (.slice (some ⟨s + 1, 0, none⟩) 1 1) [true] := by
    refine ⟨_, _, rfl, fun _ => ⟨s + 1, 0, by omega, by omega, rfl, fun i h => ?_⟩⟩
    obtain rfl := hi i h
    refine ⟨[.bool true], rfl, fun j u hj => ?_, rfl⟩
    match j, hj with
    | 0, hj =>
      simp only [World.cell?, h2]
      simpa using hj
  have hcode : RowV DIns 6 W (fun k => s ≤ k ∧ k < s + 4) (.slice (some ⟨s + 2, 0, none⟩) 2 2) [{ op := 2, a := 0, b := 0, c := 0, d := 0, list := [] }, { op := 48, a := -1, b := 0, c := 0, d := 0, list := [] }] := by
    refine ⟨_, _, rfl, fun _ => ⟨s + 2, 0, by omega, by omega, rfl, fun i h => ?_⟩⟩
    match i, h with
    | 0, _ =>
      refine ⟨[.int .i64 2, .int .i64 0, .int .i64 0, .int .i64 0, .int .i64 0, .slice none 0 0], rfl, fun j u hj => ?_, ⟨_, rfl, RowV.nil _ _ _ _ _ _⟩⟩
      have hj6 : j < 6 := (List.getElem?_eq_some_iff.1 hj).1
      simp only [World.cell?, h3]
      match j, hj6, hj with
      | 0, _, hj | 1, _, hj | 2, _, hj | 3, _, hj | 4, _, hj | 5, _, hj => simpa using hj
    | 1, _ =>
      refine ⟨[.int .i64 48, .int .i64 (-1), .int .i64 0, .int .i64 0, .int .i64 0, .slice none 0 0], rfl, fun j u hj => ?_, ⟨_, rfl, RowV.nil _ _ _ _ _ _⟩⟩
      have hj6 : j < 6 := (List.getElem?_eq_some_iff.1 hj).1
      simp only [World.cell?, h3]
      match j, hj6, hj with
      | 0, _, hj | 1, _, hj | 2, _, hj | 3, _, hj | 4, _, hj | 5, _, hj => simpa using hj
  constructor
  · refine ⟨_, _, rfl, fun _ => ⟨s, 0, by omega, by omega, rfl, fun i h => ?_⟩⟩
    obtain rfl := hi i h
    refine ⟨[.string ⟨#[97]⟩], rfl, fun j u hj => ?_, rfl⟩
    match j, hj with
    | 0, hj =>
      simp only [World.cell?, h1]
      simpa using hj
  · refine ⟨_, _, rfl, fun _ => ⟨s + 3, 0, by omega, by omega, rfl, fun i h => ?_⟩⟩
    obtain rfl := hi i h
    refine ⟨[.string ⟨#[109, 97, 105, 110]⟩, .slice (some ⟨s + 1, 0, none⟩) 1 1, .int .i64 0, .int .i64 0, .bool false, .slice (some ⟨s + 2, 0, none⟩) 2 2], rfl, fun j u hj => ?_, ⟨_, _, rfl, hrefs, hcode⟩⟩
    have hj6 : j < 6 := (List.getElem?_eq_some_iff.1 hj).1
    simp only [World.cell?, h4]
    match j, hj6, hj with
    | 0, _, hj | 1, _, hj | 2, _, hj | 3, _, hj | 4, _, hj | 5, _, hj => simpa using hj

def p0Txt : Bytes := [116, 101, 120, 116, 32, 48, 32, 34, 97, 34, 10, 102, 117, 110, 99, 32, 49, 32, 109, 97, 105, 110, 32, 112, 97, 114, 97, 109, 115, 32, 48, 32, 99, 97, 112, 116, 117, 114, 101, 115, 32, 48, 32, 114, 101, 103, 105, 115, 116, 101, 114, 115, 32, 114, 10, 9, 48, 32, 116, 101, 120, 116, 32, 48, 32, 48, 10, 9, 49, 32, 114, 101, 116, 117, 114, 110, 32, 45, 49, 10, 109, 97, 105, 110, 32, 49, 10]
theorem p0_txt : progTxt p0 = p0Txt := by kernel_rfl
theorem p0_len : p0Txt.length ≤ 800000000 := by simp [p0Txt]
theorem p0_print (W : World) (s : Nat) (hs : s + 4 ≤ W.heap.size) (h1 : W.heap[s]? = some (.cells #[.string ⟨#[97]⟩] 9 (0, 0))) (h2 : W.heap[s + 1]? = some (.cells #[.bool true] 4 (0, 0)))
    (h3 : W.heap[s + 2]? = some (.cells #[.int .i64 2, .int .i64 0, .int .i64 0, .int .i64 0, .int .i64 0, .slice none 0 0, .int .i64 48, .int .i64 (-1), .int .i64 0, .int .i64 0, .int .i64 0, .slice none 0 0] 34 (0, 0)))
    (h4 : W.heap[s + 3]? = some (.cells #[.string ⟨#[109, 97, 105, 110]⟩, .slice (some ⟨s + 1, 0, none⟩) 1 1, .int .i64 0, .int .i64 0, .bool false, .slice (some ⟨s + 2, 0, none⟩) 2 2] 31 (0, 0))) (ht : Tab W) :
    Calls Tryz.prog 9 #[.agg #[.slice (some ⟨s, 0, none⟩) 1 1, .slice none 0 0, .slice none 0 0, .slice (some ⟨s + 3, 0, none⟩) 1 1, .int .i64 1]] W fun e w' => e = .returned (.string ⟨p0Txt.toArray⟩) ∧ Upd (fun _ => False) W w' := by
  obtain ⟨r1, r2⟩ := p0_rows W s hs h1 h2 h3 h4
  have hn1 : p0.texts.length = 1 := rfl
  have hn2 : p0.funcs.length = 1 := rfl
  have hn3 : p0.main = 1 := rfl
  have h := print_any p0 (some ⟨s, 0, none⟩) none none (some ⟨s + 3, 0, none⟩) 1 0 0 0 0 1 (fun k => s ≤ k ∧ k < s + 4) W p0_ok (by rw [p0_txt]; exact p0_len) ht (by rw [hn1]; exact r1) (by rw [hn2]; exact r2) (fun k hk => by omega)
  rw [p0_txt, hn1, hn2, hn3] at h
  exact h
theorem n56 : nameOf 56 = [121, 105, 101, 108, 100] := by kernel_rfl
theorem n57 : nameOf 57 = [63] := by kernel_rfl

set_option maxRecDepth 100000 in
set_option maxHeartbeats 1600000 in
theorem anchor_any (w : World) (ht : Tab w) : Calls Tryz.prog 5 #[] w fun e w' => e = .returned (.bool true) ∧ Upd (fun _ => False) w w' := by
  obtain ⟨s, hs⟩ : ∃ s, w.heap.size = s := ⟨_, rfl⟩
  obtain ⟨A1, hA1⟩ : ∃ A, w.alloc (.cells #[.string ⟨#[97]⟩] 9) = A := ⟨_, rfl⟩
  obtain ⟨A2, hA2⟩ : ∃ A, A1.alloc (.cells #[.bool true] 4) = A := ⟨_, rfl⟩
  obtain ⟨A3, hA3⟩ : ∃ A, A2.alloc (.cells #[.int .i64 2, .int .i64 0, .int .i64 0, .int .i64 0, .int .i64 0, .slice none 0 0, .int .i64 48, .int .i64 (-1), .int .i64 0, .int .i64 0, .int .i64 0, .slice none 0 0] 34) = A := ⟨_, rfl⟩
  obtain ⟨A4, hA4⟩ : ∃ A, A3.alloc (.cells #[.string ⟨#[109, 97, 105, 110]⟩, .slice (some ⟨s + 1, 0, none⟩) 1 1, .int .i64 0, .int .i64 0, .bool false, .slice (some ⟨s + 1 + 1, 0, none⟩) 2 2] 31) = A := ⟨_, rfl⟩
  obtain ⟨A5, hA5⟩ : ∃ A, A4.alloc (.cells #[.slice (some ⟨s, 0, none⟩) 1 1, .slice none 0 0, .slice none 0 0, .slice (some ⟨s + 1 + 1 + 1, 0, none⟩) 1 1, .int .i64 1] 27) = A := ⟨_, rfl⟩
  have u1 : Upd (fun _ => False) w A1 := hA1 ▸ Upd.alloc _ w _
  have u2 : Upd (fun _ => False) A1 A2 := hA2 ▸ Upd.alloc _ A1 _
  have u3 : Upd (fun _ => False) A2 A3 := hA3 ▸ Upd.alloc _ A2 _
  have u4 : Upd (fun _ => False) A3 A4 := hA4 ▸ Upd.alloc _ A3 _
  have u5 : Upd (fun _ => False) A4 A5 := hA5 ▸ Upd.alloc _ A4 _
  have s1 : A1.heap.size = s + 1 := by rw [← hA1, World.size_alloc, hs]
  have s2 : A2.heap.size = s + 1 + 1 := by rw [← hA2, World.size_alloc, s1]
  have s3 : A3.heap.size = s + 1 + 1 + 1 := by rw [← hA3, World.size_alloc, s2]
  have s4 : A4.heap.size = s + 1 + 1 + 1 + 1 := by rw [← hA4, World.size_alloc, s3]
  have k1 := heap_alloc_new w (.cells #[.string ⟨#[97]⟩] 9)
  have k2 := heap_alloc_new A1 (.cells #[.bool true] 4)
  have k3 := heap_alloc_new A2 (.cells #[.int .i64 2, .int .i64 0, .int .i64 0, .int .i64 0, .int .i64 0, .slice none 0 0, .int .i64 48, .int .i64 (-1), .int .i64 0, .int .i64 0, .int .i64 0, .slice none 0 0] 34)
  have k4 := heap_alloc_new A3 (.cells #[.string ⟨#[109, 97, 105, 110]⟩, .slice (some ⟨s + 1, 0, none⟩) 1 1, .int .i64 0, .int .i64 0, .bool false, .slice (some ⟨s + 1 + 1, 0, none⟩) 2 2] 31)
  have k5 := heap_alloc_new A4 (.cells #[.slice (some ⟨s, 0, none⟩) 1 1, .slice none 0 0, .slice none 0 0, .slice (some ⟨s + 1 + 1 + 1, 0, none⟩) 1 1, .int .i64 1] 27)
  rw [hA1, hs] at k1
  rw [hA2, s1] at k2
  rw [hA3, s2] at k3
  rw [hA4, s3] at k4
  rw [hA5, s4] at k5
  have u45 := u4.trans u5 (fun _ _ h => h)
  have u35 := u3.trans u45 (fun _ _ h => h)
  have u25 := u2.trans u35 (fun _ _ h => h)
  have u15 := u1.trans u25 (fun _ _ h => h)
  have hP := p0_print A5 s (by have := u5.size; omega) (u25.at_ k1 (fun h => h)) (u35.at_ k2 (fun h => h)) (u45.at_ k3 (fun h => h)) (u5.at_ k4 (fun h => h)) (ht.upd u15 (fun h => h))
  have q0 : A5.cell? ⟨s + 1 + 1 + 1 + 1, 0, none⟩ = some (.slice (some ⟨s, 0, none⟩) 1 1) := by simp [World.cell?, k5]
  have q1 : A5.cell? ⟨s + 1 + 1 + 1 + 1, 1, none⟩ = some (.slice none 0 0) := by simp [World.cell?, k5]
  have q2 : A5.cell? ⟨s + 1 + 1 + 1 + 1, 2, none⟩ = some (.slice none 0 0) := by simp [World.cell?, k5]
  have q3 : A5.cell? ⟨s + 1 + 1 + 1 + 1, 3, none⟩ = some (.slice (some ⟨s + 1 + 1 + 1, 0, none⟩) 1 1) := by simp [World.cell?, k5]
  have q4 : A5.cell? ⟨s + 1 + 1 + 1 + 1, 4, none⟩ = some (.int .i64 1) := by simp [World.cell?, k5]
  have HP := Lib.hid hP
  have HU := Lib.hid u15
  clear hP k1 k2 k3 k4 k5 u1 u2 u3 u4 u5 u45 u35 u25 u15 ht
  go_enter Tryz.func5, Tryz.ntmps5
  go_wp2_with (go_at_call 9; refine HP.out.mono ?_)
  rintro e w1 ⟨rfl, hu1⟩
  have HU1 := Lib.hid hu1
  clear hu1
  have m56 : ∀ W, Calls Tryz.prog 11 #[.int .i64 56] W fun e w' => e = .returned (.string ⟨#[121, 105, 101, 108, 100]⟩) ∧ Upd (fun _ => False) W w' := fun W => by
    have h := Name_any 56 (by decide) (by decide) W
    rw [n56] at h
    exact h
  have m57 : ∀ W, Calls Tryz.prog 11 #[.int .i64 57] W fun e w' => e = .returned (.string ⟨#[63]⟩) ∧ Upd (fun _ => False) W w' := fun W => by
    have h := Name_any 57 (by decide) (by decide) W
    rw [n57] at h
    exact h
  go_wp2_with (first | (go_at_call 11; with_reducible refine (m56 _).mono ?_; rintro e w2 ⟨rfl, hu2⟩; have HU2 := Lib.hid hu2; clear hu2) | (go_at_call 11; with_reducible refine (m57 _).mono ?_; rintro e w3 ⟨rfl, hu3⟩; have HU3 := Lib.hid hu3; clear hu3))
  go_ret
  exact ⟨rfl, ((HU.out.trans HU1.out (fun _ _ h => h)).trans HU2.out (fun _ _ h => h)).trans HU3.out (fun _ _ h => h)⟩
end Go.Proofs.YtdbbalcicgllhaaGreatDoor
