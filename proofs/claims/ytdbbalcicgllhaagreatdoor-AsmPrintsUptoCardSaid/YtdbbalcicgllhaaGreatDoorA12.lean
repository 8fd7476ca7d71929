import Derived.Test.YtdbbalcicgllhaaGreatDoorA11
import Derived.Laws.CopyOwn
import Derived.Laws.Cover3
import Derived.Deep.RegionLaw
namespace Go.Proofs.YtdbbalcicgllhaaGreatDoor
open Go.RowKit

theorem n43 (w : World) (a : Option Addr) (n c : Nat) : (binOp .neq 43 (.slice a n c) (.slice none 0 0)).run Tryz.prog w = .ok (.bool (!a.isNone)) w := run_neq_slice_nil w _ _ a n c Tryz.underlying43
theorem s5 : (Tryz.prog.info? 5).map (·.size) = some 1 := by kernel_rfl
theorem cnt_le (s : Bytes) (k : Nat) (hk : k ≤ 3) : cnt s k ≤ s.length := by
  have h3 : cnt s 3 ≤ s.length := by rw [cnt_nk]; exact nk_le s
  have : k = 0 ∨ k = 1 ∨ k = 2 ∨ k = 3 := by omega
  rcases this with rfl | rfl | rfl | rfl
  · exact Nat.zero_le _
  · simp only [cnt] at h3 ⊢; omega
  · simp only [cnt] at h3 ⊢; omega
  · exact h3

set_option maxRecDepth 100000 in
set_option maxHeartbeats 6400000 in
theorem replace_any (Y Z : Nat) (s : Bytes) (w : World) (h : BI Y Z 3 w) (hl : s.length ≤ 100000000) :
    Calls Tryz.prog 127 #[.pointer (some ⟨Y, 0, none⟩), .string ⟨s.toArray⟩] w fun e w' => e = .returned (.string ⟨(esc s).toArray⟩) ∧ Upd (fun _ => False) w w' := by
  obtain ⟨i0, hi, hz0, hz1, hz2⟩ := info_parts i5
  obtain ⟨S, hS⟩ : ∃ S : ByteArray, (⟨s.toArray⟩ : ByteArray) = S := ⟨_, rfl⟩
  have hsz : S.size = s.length := by rw [← hS]; simp [ByteArray.size]
  obtain ⟨n, hn⟩ : ∃ n, s.length = n := ⟨_, rfl⟩
  have hget : ∀ (i : Nat) (c : UInt8) (hlt : i < S.size), s[i]? = some c → ((S[i]'hlt).toNat : Int) = (c.toNat : Int) := by
    intro i c hlt hc
    subst hS
    have : (⟨s.toArray⟩ : ByteArray)[i]'hlt = c := by
      have h2 : s[i]'(by rw [← hsz]; exact hlt) = c := by
        rw [List.getElem?_eq_getElem (by rw [← hsz]; exact hlt)] at hc
        exact Option.some.inj hc
      exact h2
    rw [this]
  have hdat : S.data.toList = s := by rw [← hS]
  have hlt : Y < w.heap.size := by
    obtain ⟨⟨arr, hy, _⟩, _⟩ := h
    exact (Array.getElem?_eq_some_iff.1 hy).1
  have c256 : w.cell? ⟨Y, 256, none⟩ = some (.slice (some ⟨Z, 0, none⟩) 3 3) := by
    obtain ⟨⟨arr, hy, _, h256, _⟩, _⟩ := h
    simp [World.cell?, hy, h256]
  rw [hS]
  rw [hn] at hl hsz
  have HG := Lib.hid hget
  have HSS := Lib.hid hS
  have HN := Lib.hid hn
  have HD := Lib.hid hdat
  have H := Lib.hid h
  have N := n43
  have hnot : ∀ (x : Bool) (w : World), (Op.unary .not (.bool x)).run Tryz.prog w = .ok (.bool (!x)) w := fun _ _ => rfl
  clear hget hS hn hdat h
  go_enter Tryz.func127, Tryz.ntmps127
  by_cases hcut : 24 ≤ n
  · go_wp2
    have hcz : decide ((24 : Int) ≤ (n : Int)) = true := decide_eq_true (by omega)
    rw [hcz]
    clear hcz
    go_loopw [5, 6, 32] (fun ns any i wr => ∃ k : Nat, k ≤ 3 ∧ i = .int .i64 k ∧ ns = .int .i64 ((n + cnt s k : Nat) : Int) ∧ any = .bool (decide (cnt s k ≠ 0)) ∧ Upd (fun _ => False) w wr) (fun _ _ i _ => 3 - (intOf i).toNat)
    case atStart => exact ⟨0, by omega, rfl, rfl, rfl, Upd.refl _ _⟩
    case round =>
    obtain ⟨k, hk, rfl, rfl, rfl, hu⟩ := hrel
    have hbw : BI Y Z 3 wr := H.out.upd hu (fun _ h => h.elim) (fun _ _ _ _ h => h.elim)
    have HU := Lib.hid hu
    have HB := Lib.hid hbw
    obtain rfl | rfl | rfl | rfl : k = 0 ∨ k = 1 ∨ k = 2 ∨ k = 3 := by omega
    · have hz : wr.cell? ⟨Z, 0, none⟩ = some (.string ⟨#[92]⟩) := by
        obtain ⟨_, ⟨zs, hz, _, hzk⟩⟩ := HB.out
        simp [World.cell?, hz, hzk 0 92 (by omega) rfl]
      obtain ⟨g, cp, _, _, _, _, hy, _⟩ := (HB.out.look 92).2 rfl
      have hy : wr.cell? ⟨Y, 92, none⟩ = some (.slice (some ⟨g, 0, none⟩) 2 cp) := hy
      have ix : (((⟨#[92]⟩ : ByteArray)[0]'(by decide)).toNat : Int) = 92 := rfl
      obtain ⟨m, hm⟩ : ∃ m, cnt s 0 = m := ⟨_, rfl⟩
      have hml : m ≤ n := by rw [← hm]; have h2 := cnt_le s 0 (by decide); rw [HN.out] at h2; exact h2
      obtain ⟨q, hq⟩ : ∃ q, s.count 92 = q := ⟨_, rfl⟩
      have hql : q ≤ n := by rw [← hq, ← HN.out]; exact List.count_le_length
      have hc : Calls Tryz.prog 129 #[.string S, .string ⟨#[92]⟩] wr fun e w' => e = .returned (.int .i64 q) ∧ w' = wr := by
        have := Tryz.strings_Count_one S 92 wr
        rw [HD.out] at this
        unfold Lib.countByte at this
        rw [hq] at this
        exact this
      have hstep : cnt s (0 + 1) = m + q := by rw [← hm, ← hq]; simp [cnt]
      rw [hm]
      have HSTEP := Lib.hid hstep
      clear hm hq hstep hu
      by_cases hq0 : q = 0
      · subst hq0
        go_wp2_with (with_reducible refine hc.mono ?_; rintro e w' ⟨rfl, rfl⟩)
        go_roundw
        case rel => exact ⟨0 + 1, by omega, rfl, by rw [HSTEP.out]; rfl, by rw [HSTEP.out]; simp, HU.out⟩
        case measure => simp [intOf]
      · have hq1 : ¬ (q : Int) = 0 := by omega
        go_wp2_with (with_reducible refine hc.mono ?_; rintro e w' ⟨rfl, rfl⟩)
        go_region
        all_goals (go_wp2_with fail; go_roundw)
        case rel => exact ⟨0 + 1, by omega, rfl, by rw [HSTEP.out]; go_num, by rw [HSTEP.out]; simp; omega, HU.out.trans (Upd.drew _ _) (fun _ _ h => h)⟩
        case measure => simp [intOf]
    · have hz : wr.cell? ⟨Z, 1, none⟩ = some (.string ⟨#[34]⟩) := by
        obtain ⟨_, ⟨zs, hz, _, hzk⟩⟩ := HB.out
        simp [World.cell?, hz, hzk 1 34 (by omega) rfl]
      obtain ⟨g, cp, _, _, _, _, hy, _⟩ := (HB.out.look 34).2 rfl
      have hy : wr.cell? ⟨Y, 34, none⟩ = some (.slice (some ⟨g, 0, none⟩) 2 cp) := hy
      have ix : (((⟨#[34]⟩ : ByteArray)[0]'(by decide)).toNat : Int) = 34 := rfl
      obtain ⟨m, hm⟩ : ∃ m, cnt s 1 = m := ⟨_, rfl⟩
      have hml : m ≤ n := by rw [← hm]; have h2 := cnt_le s 1 (by decide); rw [HN.out] at h2; exact h2
      obtain ⟨q, hq⟩ : ∃ q, s.count 34 = q := ⟨_, rfl⟩
      have hql : q ≤ n := by rw [← hq, ← HN.out]; exact List.count_le_length
      have hc : Calls Tryz.prog 129 #[.string S, .string ⟨#[34]⟩] wr fun e w' => e = .returned (.int .i64 q) ∧ w' = wr := by
        have := Tryz.strings_Count_one S 34 wr
        rw [HD.out] at this
        unfold Lib.countByte at this
        rw [hq] at this
        exact this
      have hstep : cnt s (1 + 1) = m + q := by rw [← hm, ← hq]; simp [cnt]
      rw [hm]
      have HSTEP := Lib.hid hstep
      clear hm hq hstep hu
      by_cases hq0 : q = 0
      · subst hq0
        go_wp2_with (with_reducible refine hc.mono ?_; rintro e w' ⟨rfl, rfl⟩)
        go_roundw
        case rel => exact ⟨1 + 1, by omega, rfl, by rw [HSTEP.out]; rfl, by rw [HSTEP.out]; simp, HU.out⟩
        case measure => simp [intOf]
      · have hq1 : ¬ (q : Int) = 0 := by omega
        go_wp2_with (with_reducible refine hc.mono ?_; rintro e w' ⟨rfl, rfl⟩)
        go_region
        all_goals (go_wp2_with fail; go_roundw)
        case rel => exact ⟨1 + 1, by omega, rfl, by rw [HSTEP.out]; go_num, by rw [HSTEP.out]; simp; omega, HU.out.trans (Upd.drew _ _) (fun _ _ h => h)⟩
        case measure => simp [intOf]
    · have hz : wr.cell? ⟨Z, 2, none⟩ = some (.string ⟨#[10]⟩) := by
        obtain ⟨_, ⟨zs, hz, _, hzk⟩⟩ := HB.out
        simp [World.cell?, hz, hzk 2 10 (by omega) rfl]
      obtain ⟨g, cp, _, _, _, _, hy, _⟩ := (HB.out.look 10).2 rfl
      have hy : wr.cell? ⟨Y, 10, none⟩ = some (.slice (some ⟨g, 0, none⟩) 2 cp) := hy
      have ix : (((⟨#[10]⟩ : ByteArray)[0]'(by decide)).toNat : Int) = 10 := rfl
      obtain ⟨m, hm⟩ : ∃ m, cnt s 2 = m := ⟨_, rfl⟩
      have hml : m ≤ n := by rw [← hm]; have h2 := cnt_le s 2 (by decide); rw [HN.out] at h2; exact h2
      obtain ⟨q, hq⟩ : ∃ q, s.count 10 = q := ⟨_, rfl⟩
      have hql : q ≤ n := by rw [← hq, ← HN.out]; exact List.count_le_length
      have hc : Calls Tryz.prog 129 #[.string S, .string ⟨#[10]⟩] wr fun e w' => e = .returned (.int .i64 q) ∧ w' = wr := by
        have := Tryz.strings_Count_one S 10 wr
        rw [HD.out] at this
        unfold Lib.countByte at this
        rw [hq] at this
        exact this
      have hstep : cnt s (2 + 1) = m + q := by rw [← hm, ← hq]; simp [cnt]
      rw [hm]
      have HSTEP := Lib.hid hstep
      clear hm hq hstep hu
      by_cases hq0 : q = 0
      · subst hq0
        go_wp2_with (with_reducible refine hc.mono ?_; rintro e w' ⟨rfl, rfl⟩)
        go_roundw
        case rel => exact ⟨2 + 1, by omega, rfl, by rw [HSTEP.out]; rfl, by rw [HSTEP.out]; simp, HU.out⟩
        case measure => simp [intOf]
      · have hq1 : ¬ (q : Int) = 0 := by omega
        go_wp2_with (with_reducible refine hc.mono ?_; rintro e w' ⟨rfl, rfl⟩)
        go_region
        all_goals (go_wp2_with fail; go_roundw)
        case rel => exact ⟨2 + 1, by omega, rfl, by rw [HSTEP.out]; go_num, by rw [HSTEP.out]; simp; omega, HU.out.trans (Upd.drew _ _) (fun _ _ h => h)⟩
        case measure => simp [intOf]
    · rw [cnt_nk]
      clear HU HB
      obtain ⟨M, hM⟩ : ∃ M, n + nk s = M := ⟨_, rfl⟩
      rw [hM]
      have hMe : (esc s).length = M := by rw [esc_len, HN.out]; exact hM
      have hMl : M ≤ 200000000 := by have h2 := nk_le s; rw [HN.out] at h2; omega
      have HU := Lib.hid hu
      have HB := Lib.hid hbw
      have HMe := Lib.hid hMe
      clear hu hbw hM hMe
      by_cases h0 : nk s = 0
      · have h0' : (decide (nk s ≠ 0)) = false := by simp [h0]
        rw [h0']
        have H0 := Lib.hid h0
        clear h0 h0'
        go_wp2_with fail
        go_ret
        refine ⟨?_, HU.out⟩
        rw [nk_zero H0.out]
        exact congrArg (fun x => Ending.returned (.string x)) HSS.out.symm
      · have h0' : (decide (nk s ≠ 0)) = true := by simp [h0]
        rw [h0']
        clear h0 h0'
        go_wp2_with (at_make; refine wpList_make_full _ rfl _ _ 43 rfl wr.heap.size 5 i0 _ 1 Tryz.underlying43 hi hz0 hz1 .i64 .i64 _ _ M rfl rfl rfl rfl ?b2 ?b3 ?b4 ?_)
        case b2 => rw [hz2]; omega
        case b3 => unfold maxLen; omega
        case b4 => exact Nat.le_refl _
        intro w1 hown hgrow
        obtain ⟨G, hG⟩ : ∃ G, wr.heap.size = G := ⟨_, rfl⟩
        have hwG : w.heap.size ≤ G := by rw [← hG]; exact HU.out.size
        have hu1 : Upd (fun _ => False) w w1 := HU.out.trans (Upd.grown hgrow (fun k hk => by simp at hk)) (fun _ _ h => h)
        have hbs1 : ∃ bs : List Value, w1.heap[G]? = some (.cells bs.toArray 5 (0, 0)) ∧ bs.length = M := by
          rcases hown.2 with ⟨hv, _⟩ | ⟨g2, cap, cur, hv, hb, hg2, _, _, hcs, _⟩
          · simp at hv
          · simp only [Value.slice.injEq, Option.some.injEq, Addr.mk.injEq] at hv
            obtain ⟨⟨rfl, _⟩, _, rfl⟩ := hv
            exact ⟨cur.toList, by rw [← hG]; exact hg2, by simpa using hcs⟩
        rw [hG]
        have HU1 := Lib.hid hu1
        have HBS := Lib.hid hbs1
        have hY1 : BI Y Z 3 w1 := H.out.upd hu1 (fun _ h => h.elim) (fun _ _ _ _ h => h.elim)
        have HY1 := Lib.hid hY1
        clear hown hgrow hG hu1 hbs1 hY1 HU HB
        go_wp2_with fail
        go_loopw [13, 14] (fun j i wr => ∃ k : Nat, k ≤ n ∧ i = .int .i64 k ∧ j = .int .i64 ((esc (s.take k)).length : Nat) ∧ Upd (fun _ => False) w wr ∧ ∃ bs : List Value, wr.heap[G]? = some (.cells bs.toArray 5 (0, 0)) ∧ bs.length = M ∧ bs.take (esc (s.take k)).length = Lib.byteCells (esc (s.take k))) (fun _ i _ => n - (intOf i).toNat)
        case atStart =>
          obtain ⟨bs, hb1, hb2⟩ := HBS.out
          exact ⟨0, Nat.zero_le _, rfl, rfl, HU1.out, bs, hb1, hb2, rfl⟩
        case round =>
          obtain ⟨k, hk, rfl, rfl, hu, bs, hbs, hbl, htk⟩ := hrel
          have hY := H.out.upd hu (fun _ h => h.elim) (fun _ _ _ _ h => h.elim)
          have HU := Lib.hid hu
          have HBS2 := Lib.hid hbs
          have HTK := Lib.hid htk
          obtain ⟨J, hJ⟩ : ∃ J, (esc (s.take k)).length = J := ⟨_, rfl⟩
          rw [hJ] at htk ⊢
          by_cases hlt2 : k < n
          · have hks : k < s.length := by rw [HN.out]; exact hlt2
            obtain ⟨c, hc⟩ : ∃ c, s[k]? = some c := ⟨_, List.getElem?_eq_getElem hks⟩
            have hkS : k < S.size := by rw [hsz]; exact hlt2
            have ix := HG.out k c hkS hc
            obtain ⟨b, hb⟩ : ∃ b, c.toNat = b := ⟨_, rfl⟩
            have hb256 : b < 256 := by rw [← hb]; exact c.toNat_lt
            have hlk := hY.look c
            have hstep := esc_take s k c hc
            have hle := esc_take_le s (k + 1)
            rw [hstep, List.length_append, HMe.out, hJ, esc1_len] at hle
            have hstepl : (esc (s.take (k + 1))).length = J + (if isKey c then 2 else 1) := by rw [hstep, List.length_append, hJ, esc1_len]
            rw [hb] at ix hlk
            have HST := Lib.hid hstep
            have HSL := Lib.hid hstepl
            have HBB := Lib.hid hb
            have HJ := Lib.hid hJ
            clear hstep hstepl hb hc hks hJ hY hu htk
            by_cases hkey : isKey c = true
            · obtain ⟨g, cp, gs, fr, x, y, hcell, hxy, hg, hg0, hg1⟩ := hlk.2 hkey
              rw [if_pos hkey] at hle
              have hJ1 : J ≤ M := by omega
              have hb256' : (b : Int) < 256 := by omega
              have hJ2 : ¬ M = J := by omega
              have hsrc : ∀ (j : Nat) (v : Value), [Value.int .u8 x.toNat, Value.int .u8 y.toNat][j]? = some v → wr.drew.cell? ((⟨g, 0, none⟩ : Addr).add j) = some v := by
                intro j v hj
                rw [Addr.add_lit, Nat.zero_add]
                have hg' : wr.drew.heap[g]? = some (.cells gs 5 fr) := hg
                match j, hj with
                | 0, hj => simp only [World.cell?, hg']; rw [hg0]; simpa using hj
                | 1, hj => simp only [World.cell?, hg']; rw [hg1]; simpa using hj
                | (j + 2), hj => simp at hj
              have hmin : [Value.int .u8 x.toNat, Value.int .u8 y.toNat].length = Nat.min 2 (M - J) := by
                show 2 = min 2 (M - J)
                omega
              have hone : ∀ v ∈ [Value.int .u8 x.toNat, Value.int .u8 y.toNat], v.oneCell' = true := by
                intro v hv
                simp at hv
                rcases hv with rfl | rfl <;> rfl
              have HSRC := Lib.hid hsrc
              have HMIN := Lib.hid hmin
              have HONE := Lib.hid hone
              have HKEY := Lib.hid hkey
              have HXY := Lib.hid hxy
              obtain ⟨cs, hcs⟩ : ∃ cs, [Value.int .u8 x.toNat, Value.int .u8 y.toNat] = cs := ⟨_, rfl⟩
              rw [hcs] at HSRC HMIN HONE
              have hcl : cs.length = 2 := by rw [← hcs]; rfl
              have HCS := Lib.hid hcs
              clear hlk hg hg0 hg1 hsrc hmin hone hkey hxy hcs
              go_wp2
              go_region_law (refine step_copy_splice rfl (.tmp 105) (.tmp 111) 43 43 rfl 5 Tryz.underlying43 s5 _ _ _ _ _ _ rfl rfl G J bs 5 HBS2.out cs HMIN.out (fun _ => ⟨rfl, _, rfl, HSRC.out⟩) (by omega) HONE.out G wr.drew (Below.refl G wr.drew) (Nat.le_refl _) ?_; intro w4 hg4 hb4)
              all_goals (go_wp2_with fail; go_roundw)
              case rel =>
                have ht := HTK.out
                rw [HJ.out] at ht
                refine ⟨k + 1, by omega, by go_num, ?_, ?_, splice bs J cs, hg4.out, ?_, ?_⟩
                · rw [HSL.out, if_pos HKEY.out]; go_num
                · have ub : Upd (fun k => G ≤ k) wr w4 := ⟨hb4.os, hb4.tape, hb4.output, hb4.size, fun k _ hk => hb4.block k (by omega)⟩
                  exact HU.out.trans ub (fun k hk h => by omega)
                · rw [length_splice _ _ _ (by rw [hcl]; omega)]; exact hbl
                · rw [HSL.out, if_pos HKEY.out, HST.out, HXY.out]
                  unfold splice
                  have hl1 : (bs.take J).length = J := by rw [List.length_take]; omega
                  rw [List.take_append, hl1, List.take_of_length_le (l := bs.take J) (by rw [hl1]; omega), ht, show J + 2 - J = 2 by omega, List.take_append, hcl, List.take_of_length_le (l := cs) (by rw [hcl]; omega), ← HCS.out]
                  simp [Lib.byteCells]
              case measure => simp [intOf]; omega
            · have hkey : isKey c = false := by simpa using hkey
              have hcell := hlk.1 hkey
              rw [if_neg (by rw [hkey]; decide)] at hle
              have hcG : wr.cell? ⟨G, J, none⟩ = some (bs[J]'(by omega)) := by simp [World.cell?, hbs, List.getElem?_eq_getElem (show J < bs.length by omega)]
              have hfG : wr.frozen? ⟨G, J, none⟩ = false := by simp [World.frozen?, hbs]
              have hst := set_at (i := J) (.int .u8 b) hbs
              have HST2 := Lib.hid hst
              have HKEY := Lib.hid hkey
              clear hlk hst hbs hkey
              go_wp2_with fail
              go_roundw
              case rel =>
                refine ⟨k + 1, by omega, by go_num, ?_, ?_, bs.set J (.int .u8 b), ?_, ?_, ?_⟩
                · rw [HSL.out, if_neg (by rw [HKEY.out]; decide)]; go_num
                · exact HU.out.trans (Upd.setCell (S := fun k => k = G) wr ⟨G, J, none⟩ _ rfl) (fun k hk h => by omega)
                · rw [HST2.out]; simp
                · simpa using hbl
                · rw [HSL.out, if_neg (by rw [HKEY.out]; decide), HST.out, esc1_off HKEY.out]
                  have ht := HTK.out
                  rw [HJ.out] at ht
                  rw [List.take_add_one, List.take_set_of_le (Nat.le_refl _), ht, List.getElem?_set_self (by omega)]
                  simp [Lib.byteCells, HBB.out]
              case measure => simp [intOf]; omega
          · have hkn : k = n := by omega
            have hall : s.take k = s := by rw [hkn, ← HN.out]; exact List.take_length
            rw [hall] at htk hJ
            have hJM : J = M := by rw [← hJ]; exact HMe.out
            have hcvt : (convert 43 9 (.slice (some ⟨G, 0, none⟩) M M)).run Tryz.prog wr = .ok (.string ⟨(esc s).toArray⟩) wr := by
              have h := run_convert_bytes_back (P := Tryz.prog) wr 43 9 5 ⟨G, 0, none⟩ M (esc s) Tryz.underlying43 Tryz.underlying5 Tryz.underlying9 (by
                intro j hj
                rw [Addr.add_lit, Nat.zero_add]
                have hjb : bs[j]? = some (.int .u8 ((esc s)[j].toNat : Int)) := by
                  rw [← List.getElem?_take_of_lt (j := J) (by rw [← hJ]; exact hj), htk]
                  simp [Lib.byteCells, hj]
                simp [World.cell?, HBS2.out, hjb])
              rw [HMe.out] at h
              exact h
            clear htk hJ hbs hY hu
            go_wp2_with fail
            go_ret
            exact ⟨rfl, HU.out⟩
  · go_wp2
    go_loopw [5, 6, 10] (fun ns any i wr => ∃ k : Nat, k ≤ n ∧ i = .int .i64 k ∧ ns = .int .i64 ((n + nk (s.take k) : Nat) : Int) ∧ any = .bool (decide (nk (s.take k) ≠ 0)) ∧ Upd (fun _ => False) w wr) (fun _ _ i _ => n - (intOf i).toNat)
    case atStart => exact ⟨0, Nat.zero_le _, rfl, rfl, rfl, Upd.refl _ _⟩
    case round =>
    obtain ⟨k, hk, rfl, rfl, rfl, hu⟩ := hrel
    have hbw : BI Y Z 3 wr := H.out.upd hu (fun _ h => h.elim) (fun _ _ _ _ h => h.elim)
    by_cases hlt2 : k < n
    · have hks : k < s.length := by rw [HN.out]; exact hlt2
      obtain ⟨c, hc⟩ : ∃ c, s[k]? = some c := ⟨_, List.getElem?_eq_getElem hks⟩
      have hkS : k < S.size := by rw [hsz]; exact hlt2
      have ix := HG.out k c hkS hc
      obtain ⟨b, hb⟩ : ∃ b, c.toNat = b := ⟨_, rfl⟩
      have hb256 : b < 256 := by rw [← hb]; exact c.toNat_lt
      have hlk := hbw.look c
      have hstep := nk_take s k c hc
      rw [hb] at ix hlk
      obtain ⟨m, hm⟩ : ∃ m, nk (s.take k) = m := ⟨_, rfl⟩
      have hml : m ≤ n := by rw [← hm]; exact Nat.le_trans (nk_le _) (by simp [HN.out]; omega)
      rw [hm] at hstep ⊢
      have HSTEP := Lib.hid hstep
      have HU := Lib.hid hu
      clear hstep hb hc hks hu hbw hm
      by_cases hkey : isKey c = true
      · obtain ⟨g, cp, gs, fr, x, y, hcell, hxy, hg, hg0, hg1⟩ := hlk.2 hkey
        have HKEY := Lib.hid hkey
        clear hlk hg hg0 hg1 hkey hxy
        go_wp2_with fail
        go_roundw
        case rel => exact ⟨k + 1, by omega, by go_num, by rw [HSTEP.out, if_pos HKEY.out]; go_num, by rw [HSTEP.out, if_pos HKEY.out]; simp, HU.out⟩
        case measure => simp [intOf]; omega
      · have hkey : isKey c = false := by simpa using hkey
        have hcell := hlk.1 hkey
        have HKEY := Lib.hid hkey
        clear hlk hkey
        go_wp2_with fail
        go_roundw
        case rel => exact ⟨k + 1, by omega, by go_num, by rw [HSTEP.out, if_neg (by rw [HKEY.out]; decide)]; rfl, by rw [HSTEP.out, if_neg (by rw [HKEY.out]; decide)]; rfl, HU.out⟩
        case measure => simp [intOf]; omega
    · have hkn : k = n := by omega
      have hall : s.take k = s := by rw [hkn, ← HN.out]; exact List.take_length
      rw [hall]
      clear hall
      obtain ⟨M, hM⟩ : ∃ M, n + nk s = M := ⟨_, rfl⟩
      rw [hM]
      have hMe : (esc s).length = M := by rw [esc_len, HN.out]; exact hM
      have hMl : M ≤ 200000000 := by have h2 := nk_le s; rw [HN.out] at h2; omega
      have HU := Lib.hid hu
      have HB := Lib.hid hbw
      have HMe := Lib.hid hMe
      clear hu hbw hM hMe
      by_cases h0 : nk s = 0
      · have h0' : (decide (nk s ≠ 0)) = false := by simp [h0]
        rw [h0']
        have H0 := Lib.hid h0
        clear h0 h0'
        go_wp2_with fail
        go_ret
        refine ⟨?_, HU.out⟩
        rw [nk_zero H0.out]
        exact congrArg (fun x => Ending.returned (.string x)) HSS.out.symm
      · have h0' : (decide (nk s ≠ 0)) = true := by simp [h0]
        rw [h0']
        clear h0 h0'
        go_wp2_with (at_make; refine wpList_make_full _ rfl _ _ 43 rfl wr.heap.size 5 i0 _ 1 Tryz.underlying43 hi hz0 hz1 .i64 .i64 _ _ M rfl rfl rfl rfl ?b2 ?b3 ?b4 ?_)
        case b2 => rw [hz2]; omega
        case b3 => unfold maxLen; omega
        case b4 => exact Nat.le_refl _
        intro w1 hown hgrow
        obtain ⟨G, hG⟩ : ∃ G, wr.heap.size = G := ⟨_, rfl⟩
        have hwG : w.heap.size ≤ G := by rw [← hG]; exact HU.out.size
        have hu1 : Upd (fun _ => False) w w1 := HU.out.trans (Upd.grown hgrow (fun k hk => by simp at hk)) (fun _ _ h => h)
        have hbs1 : ∃ bs : List Value, w1.heap[G]? = some (.cells bs.toArray 5 (0, 0)) ∧ bs.length = M := by
          rcases hown.2 with ⟨hv, _⟩ | ⟨g2, cap, cur, hv, hb, hg2, _, _, hcs, _⟩
          · simp at hv
          · simp only [Value.slice.injEq, Option.some.injEq, Addr.mk.injEq] at hv
            obtain ⟨⟨rfl, _⟩, _, rfl⟩ := hv
            exact ⟨cur.toList, by rw [← hG]; exact hg2, by simpa using hcs⟩
        rw [hG]
        have HU1 := Lib.hid hu1
        have HBS := Lib.hid hbs1
        have hY1 : BI Y Z 3 w1 := H.out.upd hu1 (fun _ h => h.elim) (fun _ _ _ _ h => h.elim)
        have HY1 := Lib.hid hY1
        clear hown hgrow hG hu1 hbs1 hY1 HU HB
        go_wp2_with fail
        go_loopw [13, 14] (fun j i wr => ∃ k : Nat, k ≤ n ∧ i = .int .i64 k ∧ j = .int .i64 ((esc (s.take k)).length : Nat) ∧ Upd (fun _ => False) w wr ∧ ∃ bs : List Value, wr.heap[G]? = some (.cells bs.toArray 5 (0, 0)) ∧ bs.length = M ∧ bs.take (esc (s.take k)).length = Lib.byteCells (esc (s.take k))) (fun _ i _ => n - (intOf i).toNat)
        case atStart =>
          obtain ⟨bs, hb1, hb2⟩ := HBS.out
          exact ⟨0, Nat.zero_le _, rfl, rfl, HU1.out, bs, hb1, hb2, rfl⟩
        case round =>
          obtain ⟨k, hk, rfl, rfl, hu, bs, hbs, hbl, htk⟩ := hrel
          have hY := H.out.upd hu (fun _ h => h.elim) (fun _ _ _ _ h => h.elim)
          have HU := Lib.hid hu
          have HBS2 := Lib.hid hbs
          have HTK := Lib.hid htk
          obtain ⟨J, hJ⟩ : ∃ J, (esc (s.take k)).length = J := ⟨_, rfl⟩
          rw [hJ] at htk ⊢
          by_cases hlt2 : k < n
          · have hks : k < s.length := by rw [HN.out]; exact hlt2
            obtain ⟨c, hc⟩ : ∃ c, s[k]? = some c := ⟨_, List.getElem?_eq_getElem hks⟩
            have hkS : k < S.size := by rw [hsz]; exact hlt2
            have ix := HG.out k c hkS hc
            obtain ⟨b, hb⟩ : ∃ b, c.toNat = b := ⟨_, rfl⟩
            have hb256 : b < 256 := by rw [← hb]; exact c.toNat_lt
            have hlk := hY.look c
            have hstep := esc_take s k c hc
            have hle := esc_take_le s (k + 1)
            rw [hstep, List.length_append, HMe.out, hJ, esc1_len] at hle
            have hstepl : (esc (s.take (k + 1))).length = J + (if isKey c then 2 else 1) := by rw [hstep, List.length_append, hJ, esc1_len]
            rw [hb] at ix hlk
            have HST := Lib.hid hstep
            have HSL := Lib.hid hstepl
            have HBB := Lib.hid hb
            have HJ := Lib.hid hJ
            clear hstep hstepl hb hc hks hJ hY hu htk
            by_cases hkey : isKey c = true
            · obtain ⟨g, cp, gs, fr, x, y, hcell, hxy, hg, hg0, hg1⟩ := hlk.2 hkey
              rw [if_pos hkey] at hle
              have hJ1 : J ≤ M := by omega
              have hb256' : (b : Int) < 256 := by omega
              have hJ2 : ¬ M = J := by omega
              have hsrc : ∀ (j : Nat) (v : Value), [Value.int .u8 x.toNat, Value.int .u8 y.toNat][j]? = some v → wr.drew.cell? ((⟨g, 0, none⟩ : Addr).add j) = some v := by
                intro j v hj
                rw [Addr.add_lit, Nat.zero_add]
                have hg' : wr.drew.heap[g]? = some (.cells gs 5 fr) := hg
                match j, hj with
                | 0, hj => simp only [World.cell?, hg']; rw [hg0]; simpa using hj
                | 1, hj => simp only [World.cell?, hg']; rw [hg1]; simpa using hj
                | (j + 2), hj => simp at hj
              have hmin : [Value.int .u8 x.toNat, Value.int .u8 y.toNat].length = Nat.min 2 (M - J) := by
                show 2 = min 2 (M - J)
                omega
              have hone : ∀ v ∈ [Value.int .u8 x.toNat, Value.int .u8 y.toNat], v.oneCell' = true := by
                intro v hv
                simp at hv
                rcases hv with rfl | rfl <;> rfl
              have HSRC := Lib.hid hsrc
              have HMIN := Lib.hid hmin
              have HONE := Lib.hid hone
              have HKEY := Lib.hid hkey
              have HXY := Lib.hid hxy
              obtain ⟨cs, hcs⟩ : ∃ cs, [Value.int .u8 x.toNat, Value.int .u8 y.toNat] = cs := ⟨_, rfl⟩
              rw [hcs] at HSRC HMIN HONE
              have hcl : cs.length = 2 := by rw [← hcs]; rfl
              have HCS := Lib.hid hcs
              clear hlk hg hg0 hg1 hsrc hmin hone hkey hxy hcs
              go_wp2
              go_region_law (refine step_copy_splice rfl (.tmp 105) (.tmp 111) 43 43 rfl 5 Tryz.underlying43 s5 _ _ _ _ _ _ rfl rfl G J bs 5 HBS2.out cs HMIN.out (fun _ => ⟨rfl, _, rfl, HSRC.out⟩) (by omega) HONE.out G wr.drew (Below.refl G wr.drew) (Nat.le_refl _) ?_; intro w4 hg4 hb4)
              all_goals (go_wp2_with fail; go_roundw)
              case rel =>
                have ht := HTK.out
                rw [HJ.out] at ht
                refine ⟨k + 1, by omega, by go_num, ?_, ?_, splice bs J cs, hg4.out, ?_, ?_⟩
                · rw [HSL.out, if_pos HKEY.out]; go_num
                · have ub : Upd (fun k => G ≤ k) wr w4 := ⟨hb4.os, hb4.tape, hb4.output, hb4.size, fun k _ hk => hb4.block k (by omega)⟩
                  exact HU.out.trans ub (fun k hk h => by omega)
                · rw [length_splice _ _ _ (by rw [hcl]; omega)]; exact hbl
                · rw [HSL.out, if_pos HKEY.out, HST.out, HXY.out]
                  unfold splice
                  have hl1 : (bs.take J).length = J := by rw [List.length_take]; omega
                  rw [List.take_append, hl1, List.take_of_length_le (l := bs.take J) (by rw [hl1]; omega), ht, show J + 2 - J = 2 by omega, List.take_append, hcl, List.take_of_length_le (l := cs) (by rw [hcl]; omega), ← HCS.out]
                  simp [Lib.byteCells]
              case measure => simp [intOf]; omega
            · have hkey : isKey c = false := by simpa using hkey
              have hcell := hlk.1 hkey
              rw [if_neg (by rw [hkey]; decide)] at hle
              have hcG : wr.cell? ⟨G, J, none⟩ = some (bs[J]'(by omega)) := by simp [World.cell?, hbs, List.getElem?_eq_getElem (show J < bs.length by omega)]
              have hfG : wr.frozen? ⟨G, J, none⟩ = false := by simp [World.frozen?, hbs]
              have hst := set_at (i := J) (.int .u8 b) hbs
              have HST2 := Lib.hid hst
              have HKEY := Lib.hid hkey
              clear hlk hst hbs hkey
              go_wp2_with fail
              go_roundw
              case rel =>
                refine ⟨k + 1, by omega, by go_num, ?_, ?_, bs.set J (.int .u8 b), ?_, ?_, ?_⟩
                · rw [HSL.out, if_neg (by rw [HKEY.out]; decide)]; go_num
                · exact HU.out.trans (Upd.setCell (S := fun k => k = G) wr ⟨G, J, none⟩ _ rfl) (fun k hk h => by omega)
                · rw [HST2.out]; simp
                · simpa using hbl
                · rw [HSL.out, if_neg (by rw [HKEY.out]; decide), HST.out, esc1_off HKEY.out]
                  have ht := HTK.out
                  rw [HJ.out] at ht
                  rw [List.take_add_one, List.take_set_of_le (Nat.le_refl _), ht, List.getElem?_set_self (by omega)]
                  simp [Lib.byteCells, HBB.out]
              case measure => simp [intOf]; omega
          · have hkn : k = n := by omega
            have hall : s.take k = s := by rw [hkn, ← HN.out]; exact List.take_length
            rw [hall] at htk hJ
            have hJM : J = M := by rw [← hJ]; exact HMe.out
            have hcvt : (convert 43 9 (.slice (some ⟨G, 0, none⟩) M M)).run Tryz.prog wr = .ok (.string ⟨(esc s).toArray⟩) wr := by
              have h := run_convert_bytes_back (P := Tryz.prog) wr 43 9 5 ⟨G, 0, none⟩ M (esc s) Tryz.underlying43 Tryz.underlying5 Tryz.underlying9 (by
                intro j hj
                rw [Addr.add_lit, Nat.zero_add]
                have hjb : bs[j]? = some (.int .u8 ((esc s)[j].toNat : Int)) := by
                  rw [← List.getElem?_take_of_lt (j := J) (by rw [← hJ]; exact hj), htk]
                  simp [Lib.byteCells, hj]
                simp [World.cell?, HBS2.out, hjb])
              rw [HMe.out] at h
              exact h
            clear htk hJ hbs hY hu
            go_wp2_with fail
            go_ret
            exact ⟨rfl, HU.out⟩
end Go.Proofs.YtdbbalcicgllhaaGreatDoor
