import Derived.Test.YtdflfcgdfbihfaaDoorD8
import Derived.Test.YtdflfcgdfbihfaaDoorC13
import Derived.Deep.RegionHeld3
namespace Go.Proofs.YtdflfcgdfbihfaaDoor
open Go.RowKit CodeText

def p0 : Pg := ⟨[[97]], [], [], [], 3⟩
def b0 : Bytes := [2, 2, 97, 0, 0, 0, 6]

theorem p0_back : wpg p0 = b0 := by
  have h1 : ∀ u : Nat, u < 128 → uenc u = [UInt8.ofNat u] := fun u h => uenc_small h
  simp [wpg, p0, b0, weach, wtext, wflags, wnum, zag, h1]

theorem p0_v : VPg p0 := by
  refine ⟨⟨by simp [p0], by simp [p0]⟩, ⟨by simp [p0], by simp [p0]⟩, ⟨by simp [p0], by simp [p0]⟩, ⟨by simp [p0], by simp [p0]⟩, by unfold Fits p0; simp⟩

theorem p0_l : LPg p0 := ⟨p0_v, by simp [p0], by simp [p0], by simp [p0], by simp [p0], by simp [p0], by simp [p0]⟩

theorem b0_dec : CodeText.decode b0 = some p0 := by
  rw [← p0_back]; exact decode_encode p0_v

theorem b1_dec : CodeText.decode (b0 ++ [0]) = none := by
  have h := (back_pg p0 p0_v).2 [0]
  rw [p0_back] at h
  unfold CodeText.decode
  rw [h, if_pos (.inr (by simp))]

theorem dec_some (E : Addr) (I : Nat) (b : Bytes) (n : Nat) (hn : b.length = n) (p : Pg) (hd : CodeText.decode b = some p) (a0 : Option Addr) (c0 : Nat) (w : World) (hs : Src w I (.slice a0 n c0) b) (hg : w.cell? ⟨0, 0, none⟩ = some (short E)) (hf : n ≤ 1000000) (hI : I < w.heap.size) :
    Calls Tryd.prog 5 #[.slice a0 n c0] w fun e w' => Upd (fun _ => False) w w' ∧ ∃ ta tc ga gc sa sc fa fc S, e = .returned (.tuple #[.agg #[.slice ta p.texts.length tc, .slice ga p.globals.length gc, .slice sa p.structs.length sc, .slice fa p.funcs.length fc, .int .i64 p.main], .bool true]) ∧
        RowV DStr 1 w' S (.slice ta p.texts.length tc) p.texts ∧ RowV DBool 1 w' S (.slice ga p.globals.length gc) p.globals ∧ RowV DFlags 1 w' S (.slice sa p.structs.length sc) p.structs ∧ RowV DFn 6 w' S (.slice fa p.funcs.length fc) p.funcs ∧
        (∀ k, S k → w.heap.size ≤ k ∧ k < w'.heap.size) := by
  subst hn
  refine (decode_any E I b a0 c0 w hs hg hf hI).mono ?_
  rintro e w' ⟨hu, ⟨h, _⟩ | ⟨p', ta, tc, ga, gc, sa, sc, fa, fc, S, h, h1, h2⟩⟩
  · rw [hd] at h; cases h
  · rw [hd] at h; injection h with h; subst h
    exact ⟨hu, ta, tc, ga, gc, sa, sc, fa, fc, S, h1, h2⟩

theorem dec_none (E : Addr) (I : Nat) (b : Bytes) (n : Nat) (hn : b.length = n) (hd : CodeText.decode b = none) (a0 : Option Addr) (c0 : Nat) (w : World) (hs : Src w I (.slice a0 n c0) b) (hg : w.cell? ⟨0, 0, none⟩ = some (short E)) (hf : n ≤ 1000000) (hI : I < w.heap.size) :
    Calls Tryd.prog 5 #[.slice a0 n c0] w fun e w' => e = .returned (.tuple #[.agg #[.slice none 0 0, .slice none 0 0, .slice none 0 0, .slice none 0 0, .int .i64 0], .bool false]) ∧ Upd (fun _ => False) w w' := by
  subst hn
  refine (decode_any E I b a0 c0 w hs hg hf hI).mono ?_
  rintro e w' ⟨hu, ⟨_, h⟩ | ⟨p', ta, tc, ga, gc, sa, sc, fa, fc, S, h, h1, h2⟩⟩
  · exact ⟨h, hu⟩
  · rw [hd] at h; cases h

theorem own_src {B n : Nat} {w : World} {v : Value} {l : Bytes} (k2 : w.ownsRow B 5 1 v n (l.map fun b => .int .u8 b.toNat)) (hl : l.length = n) (hn : n ≠ 0) :
    ∃ g c, v = .slice (some ⟨g, 0, none⟩) n c ∧ Src w g (.slice (some ⟨g, 0, none⟩) n c) l ∧ B ≤ g ∧ g < w.heap.size := by
  subst hl
  rcases k2.2 with ⟨_, h0⟩ | ⟨g, cap, cur, rfl, hb, hg, hc, hm, hs, ht⟩
  · exact absurd h0 hn
  · refine ⟨g, cap, rfl, ⟨_, cap, rfl, hc, by unfold maxLen at hm; omega, .inr ⟨0, rfl, fun i hi => ?_⟩⟩, hb, (Array.getElem?_eq_some_iff.1 hg).1⟩
    have := k2.cells (g := g) rfl i (.int .u8 l[i].toNat) (by simp [List.getElem?_eq_getElem hi])
    rw [Addr.add_lit] at this
    simpa using this

theorem src_news {w : World} {g n c : Nat} {l : Bytes} (h : Src w g (.slice (some ⟨g, 0, none⟩) n c) l) : ∀ j u, (l.map fun b => Value.int .u8 b.toNat)[j]? = some u → w.cell? ((⟨g, 0, none⟩ : Addr).add j) = some u := by
  obtain ⟨a, c', hv, _, _, h4⟩ := h
  injection hv with hv _ _
  intro j u hj
  rcases h4 with ⟨rfl, _⟩ | ⟨o, rfl, h4⟩
  · cases hv
  · injection hv with hv
    injection hv with _ hv _
    subst hv
    rw [List.getElem?_map] at hj
    obtain ⟨b, hb, rfl⟩ := Option.map_eq_some_iff.1 hj
    obtain ⟨hjl, rfl⟩ := List.getElem?_eq_some_iff.1 hb
    have := h4 j hjl
    rw [Addr.add_lit]
    simpa using this

set_option maxRecDepth 100000 in
set_option maxHeartbeats 1600000 in
theorem anchor_any (E : Addr) (w : World) (hg : w.cell? ⟨0, 0, none⟩ = some (short E)) :
    Calls Tryd.prog 4 #[] w fun e w' => e = .returned (.bool true) ∧ Upd (fun _ => False) w w' := by
  have hw0 : 0 < w.heap.size := World.block_lt_of_cell? _ _ hg
  obtain ⟨W, hW⟩ : ∃ W, w.alloc (.cells #[.string ⟨#[97]⟩] 9 (0, 0)) = W := ⟨_, rfl⟩
  have hU : Upd (fun _ => False) w W := by rw [← hW]; exact Upd.alloc _ _ _
  have hb : W.heap[w.heap.size]? = some (.cells #[.string ⟨#[97]⟩] 9 (0, 0)) := by rw [← hW]; exact heap_alloc_new _ _
  have hs : W.heap.size = w.heap.size + 1 := by rw [← hW, World.size_alloc]
  have hrow : RowV DStr 1 W (fun k => k = w.heap.size) (.slice (some ⟨w.heap.size, 0, none⟩) 1 1) p0.texts := by
    refine ⟨_, 1, rfl, fun _ => ⟨w.heap.size, rfl, by omega, rfl, ?_⟩⟩
    intro i hi
    obtain rfl : i = 0 := by simp [p0] at hi; exact hi
    refine ⟨[.string ⟨#[97]⟩], rfl, ?_, rfl⟩
    intro j u hj
    obtain rfl : j = 0 := by
      have := (List.getElem?_eq_some_iff.1 hj).1
      simp at this; exact this
    simp at hj
    subst hj
    unfold World.cell?
    rw [hb]
    rfl
  have cE : Calls Tryd.prog 8 #[.agg #[.slice (some ⟨w.heap.size, 0, none⟩) 1 1, .slice none 0 0, .slice none 0 0, .slice none 0 0, .int .i64 3]] W fun e w' =>
      ∃ g c, e = .returned (.slice (some ⟨g, 0, none⟩) 7 c) ∧ Upd (fun _ => False) W w' ∧ Src w' g (.slice (some ⟨g, 0, none⟩) 7 c) b0 ∧ W.heap.size ≤ g ∧ g < w'.heap.size := by
    have h := encode_any p0 (some ⟨w.heap.size, 0, none⟩) none none none 1 0 0 0 (fun k => k = w.heap.size) W p0_l (by rw [p0_back]; decide) hrow (RowV.nil _ _ _ _ _ _) (RowV.nil _ _ _ _ _ _) (RowV.nil _ _ _ _ _ _) (fun k hk => by omega)
    rw [p0_back] at h
    exact h
  have hgW := hU.cell hg (fun h => h)
  have HU := Lib.hid hU
  have HG := Lib.hid hgW
  clear hrow hb hU hg hgW
  go_enter Tryd.func4, Tryd.ntmps4
  go_wp2_with (with_reducible refine cE.mono ?_; rintro e w1 ⟨g, c, rfl, hu1, hsr, hg1, hg2⟩; have HU1 := Lib.hid hu1; have HSR := Lib.hid hsr; clear hu1 hsr)
  have cD : Calls Tryd.prog 5 #[.slice (some ⟨g, 0, none⟩) 7 c] w1 fun e w' => Upd (fun _ => False) w1 w' ∧ ∃ ta tc ga gc sa sc fa fc S, e = .returned (.tuple #[.agg #[.slice ta 1 tc, .slice ga 0 gc, .slice sa 0 sc, .slice fa 0 fc, .int .i64 3], .bool true]) ∧ RowV DStr 1 w' S (.slice ta 1 tc) [[97]] ∧ (∀ k, S k → w1.heap.size ≤ k ∧ k < w'.heap.size) := by
    refine (dec_some E g b0 7 rfl p0 b0_dec (some ⟨g, 0, none⟩) c w1 HSR.out (HU1.out.cell HG.out (fun h => h)) (by omega) hg2).mono ?_
    rintro e w2 ⟨hu, ta, tc, ga, gc, sa, sc, fa, fc, S, rfl, h1, h2, h3, h4, hS⟩
    exact ⟨hu, ta, tc, ga, gc, sa, sc, fa, fc, S, rfl, h1, hS⟩
  with_reducible refine cD.mono ?_
  rintro e w2 ⟨hu, ta, tc, ga, gc, sa, sc, fa, fc, S, rfl, h1, hS⟩
  obtain ⟨W3, hW3⟩ : ∃ W3, (w2.alloc (.cells #[.slice ta 1 tc, .slice ga 0 gc, .slice sa 0 sc, .slice fa 0 fc, .int .i64 3] 29 (0, 0))).alloc (.cells #[] 5 (0, 0)) = W3 := ⟨_, rfl⟩
  have hU3 : Upd (fun _ => False) w2 W3 := by rw [← hW3]; exact (Upd.alloc _ _ _).trans (Upd.alloc (fun _ => False) _ _) (fun _ _ h => h)
  have hs3 : W3.heap.size = w2.heap.size + 2 := by rw [← hW3, World.size_alloc, World.size_alloc]
  have hbD : W3.heap[w2.heap.size]? = some (.cells #[.slice ta 1 tc, .slice ga 0 gc, .slice sa 0 sc, .slice fa 0 fc, .int .i64 3] 29 (0, 0)) := by
    rw [← hW3, Below.heap_alloc _ _ _ (by simp only [World.size_alloc]; omega)]
    exact heap_alloc_new _ _
  have hbN : W3.heap[w2.heap.size + 1]? = some (.cells #[] 5 (0, 0)) := by
    have := heap_alloc_new (w2.alloc (.cells #[.slice ta 1 tc, .slice ga 0 gc, .slice sa 0 sc, .slice fa 0 fc, .int .i64 3] 29 (0, 0))) (.cells #[] 5 (0, 0))
    rw [World.size_alloc] at this
    rw [← hW3]; exact this
  have hw2 := (HU1.out.trans hu (fun _ _ h => h)).size
  have hw1 := HU.out.size
  have hgl : g < w2.heap.size := Nat.lt_of_lt_of_le hg2 hu.size
  have hown : W3.ownsRow (w2.heap.size + 1) 5 1 (.slice (some ⟨w2.heap.size + 1, 0, none⟩) 0 0) 0 [] := ⟨rfl, .inr ⟨w2.heap.size + 1, 0, #[], rfl, Nat.le_refl _, hbN, Nat.le_refl _, by unfold maxLen; omega, rfl, rfl⟩⟩
  have HOWN := Lib.hid hown
  have HSR3 := Lib.hid ((HSR.out.upd hu (fun h => h)).upd hU3 (fun h => h))
  have HG3 := Lib.hid (hU3.cell (hu.cell (HU1.out.cell HG.out (fun h => h)) (fun h => h)) (fun h => h))
  have HU3 := Lib.hid (((HU.out.trans HU1.out (fun _ _ h => h)).trans hu (fun _ _ h => h)).trans hU3 (fun _ _ h => h))
  have HROW := Lib.hid (h1.upd stStr hU3 (fun _ _ _ h => h))
  have HS := Lib.hid hS
  have HBD := Lib.hid hbD
  obtain ⟨i0, hi, hz0, hz1, hz2⟩ := info_parts i5
  clear hu h1 cD hown hbN hbD hU3 hS
  go_wp2_with (at_builtin; refine wpList_append_own_at _ rfl _ _ 22 rfl (w2.heap.size + 1) 5 i0 (.int .u8 0) 1 1 Tryd.underlying22 hi hz0 hz1 hz2 rfl (by decide) _ _ _ rfl HOWN.out ⟨g, 0, none⟩ 7 c (b0.map fun b => .int .u8 b.toNat) rfl rfl ?c1 ?c2 ?c3 ?c4 ?c5 ?grow)
  case c1 => exact src_news HSR3.out
  case c2 => intro u hu; simp [b0] at hu; rcases hu with rfl | rfl | rfl | rfl | rfl | rfl | rfl <;> rfl
  case c3 => unfold maxLen; omega
  case c4 => omega
  case c5 => omega
  case grow =>
    intro v1 w4 hown1 hgrow hnn hat
    have hown1 : w4.ownsRow (w2.heap.size + 1) 5 1 v1 7 (b0.map fun b => .int .u8 b.toNat) := hown1
    obtain ⟨g1, cc1, rfl, _, hg1l, hg1h⟩ := own_src hown1 rfl (by decide)
    have hu4 : Upd (fun k => w2.heap.size + 1 ≤ k) W3 w4 := Upd.grown hgrow (fun k hk => by simp [Value.ownBlock] at hk; omega)
    have HU4 := Lib.hid hu4
    have HOWN1 := Lib.hid hown1
    have hs4 := hu4.size
    clear hown1 hgrow hnn hat hu4
    go_wp2_with (at_builtin; refine wpList_append_own_at _ rfl _ _ 22 rfl (w2.heap.size + 1) 5 i0 (.int .u8 0) 1 1 Tryd.underlying22 hi hz0 hz1 hz2 rfl (by decide) _ _ _ rfl (HOWN1.out.alloc _) ⟨w4.heap.size, 0, none⟩ 1 1 [.int .u8 0] rfl rfl ?c1 ?c2 ?c3 ?c4 ?c5 ?grow)
    case c1 => exact World.news_of_block (heap_alloc_new _ _)
    case c2 => intro u hu; simp at hu; subst hu; rfl
    case c3 => unfold maxLen; omega
    case c4 => omega
    case c5 => simp only [World.size_alloc]; omega
    case grow =>
      intro v2 w5 hown2 hgrow hnn hat
      have hown2 : w5.ownsRow (w2.heap.size + 1) 5 1 v2 8 ((b0 ++ [(0 : UInt8)] : Bytes).map fun b => Value.int .u8 b.toNat) := hown2
      obtain ⟨g2, cc2, rfl, hsr2, hg2l, hg2h⟩ := own_src hown2 rfl (by decide)
      have hu5 : Upd (fun k => w2.heap.size + 1 ≤ k) W3 w5 := (HU4.out.trans (Upd.alloc (fun _ => False) _ _) (fun _ _ h => h.elim)).trans (Upd.grown (S := fun k => w2.heap.size + 1 ≤ k) hgrow (fun k hk => by simp [Value.ownBlock] at hk; omega)) (fun _ _ h => h)
      have HU5 := Lib.hid hu5
      have hs5 := hu5.size
      have cN := dec_none E g2 (b0 ++ [0]) 8 rfl b1_dec (some ⟨g2, 0, none⟩) cc2 w5 hsr2 (hu5.cell HG3.out (fun h => by simp at h)) (by omega) hg2h
      clear hown2 hgrow hnn hat hu5 hsr2
      go_wp2_with fail
      with_reducible refine cN.mono ?_
      rintro e w6 ⟨rfl, hu6⟩
      obtain ⟨W7, hW7⟩ : ∃ W7, w6.alloc (.cells #[.slice none 0 0, .slice none 0 0, .slice none 0 0, .slice none 0 0, .int .i64 0] 29 (0, 0)) = W7 := ⟨_, rfl⟩
      have hu7 : Upd (fun k => w2.heap.size + 1 ≤ k) W3 W7 := by
        rw [← hW7]
        exact (HU5.out.trans hu6 (fun _ _ h => h.elim)).trans (Upd.alloc (fun _ => False) _ _) (fun _ _ h => h.elim)
      have hD7 := (hu7.block w2.heap.size (by omega) (fun h => by omega)).trans HBD.out
      obtain ⟨d0, d1, d2, d3, d4, d5, d6, d7, d8, d9⟩ := five hD7
      obtain ⟨gt, vs, rfl, _, hvc, hDS⟩ := RowV.dest (HROW.out.upd stStr hu7 (fun k hk _ hq => by have := HS.out k hk; omega)) 0 (by simp)
      obtain rfl := hDS.dest
      have ht := hvc 0 _ rfl
      rw [Nat.add_zero, Nat.zero_mul] at ht
      have HU7 := Lib.hid (HU3.out.trans hu7 (fun k hk hq => by omega))
      clear hvc hDS hu6 hu7 cN hD7
      subst hW7
      go_wp2
      go_ret
      exact ⟨rfl, HU7.out⟩

end Go.Proofs.YtdflfcgdfbihfaaDoor
