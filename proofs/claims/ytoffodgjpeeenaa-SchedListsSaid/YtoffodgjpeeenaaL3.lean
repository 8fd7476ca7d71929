import Derived.Test.YtoffodgjpeeenaaP2
import Derived.Deep.RegionWith
namespace Go.Proofs.Ytoffodgjpeeenaa
open Go.RowKit

/-- A state of both queues that are alike. -/
def Like (B : Nat) (w0 w : World) (b rb : Nat) : Prop := ∃ scr l, Pair B w0 w b rb scr l scr l ∧ scr.length ≤ 200 ∧ l.length ≤ 100

set_option maxHeartbeats 4000000 in
set_option maxRecDepth 100000 in
/-- SchedLists, past its guard. -/
theorem lists_walk (a : Option Addr) (n c : Nat) (xs : List Int) (a2 : Option Addr) (m c2 : Nat) (ys : List Int) (turns : Nat) (w : World) (hn : xs.length = n) (hv : View w (.slice a n c) xs) (htop : ∀ x ∈ xs, -9223372036854775808 ≤ x ∧ x ≤ 9223372036854775807) (hx : ∀ k, (Value.slice a n c).ownBlock = some k → xs ≠ [] → k < w.heap.size)
    (hm : ys.length = m) (hv2 : View w (.slice a2 m c2) ys)
    (h1 : n ≤ 200) (h2 : m ≤ 100) (h3 : turns ≤ 50) :
    Calls Try.prog 3 #[.slice a n c, .slice a2 m c2, .int .i64 turns] w fun e w' => e = .returned (.bool true) ∧ Below w.heap.size w w' := by
  obtain ⟨i0, hi, hz0, hz1, hz2⟩ := info_parts Try.info3
  have HA := Lib.hid (anchor_any w)
  have HX : Hid (∀ w1, UpB w.heap.size w w1 → View w1 (.slice a n c) xs) := fun w1 hu => hv.updne hu (fun hne k hk => by have := hx k hk hne; omega)
  have HN := Lib.hid (fun (w1 : World) (hu : UpB w.heap.size w w1) => own_new w.heap.size (.slice a n c) xs w w1 (HX.out w1 hu) (by omega) (fun x hx => (htop x hx).2) hu.size hu)
  have HI := Lib.hid (fun (w1 : World) (b : Nat) (ho : Own w.heap.size b w w1 xs []) => pair_init (Sv := .slice a n c) (S := xs) ho (HX.out w1 ho.2.1) (by omega) (fun x hx => (htop x hx).2) (fun hne k hk => hx k hk hne))
  have HV2 := Lib.hid hv2
  have HL2 := Lib.hid hm
  have HL := Lib.hid hn
  clear hv htop hx hn hv2 hm
  go_enter Try.func3, Try.ntmps3
  go_wp2_with fail
  refine HA.out.mono ?_
  rintro e w1 ⟨rfl, hu1⟩
  go_wp2_with fail
  refine (HN.out w1 hu1.out).mono ?_
  rintro e w2 ⟨b, rfl, ho2⟩
  have HP0 := Lib.hid (HI.out w2 b ho2.out.1)
  go_wp2_with fail
  go_loopw [10, 45] (fun _ i wr => ∃ k : Nat, k ≤ m ∧ i = .int .i64 k ∧ Hid (Pair w.heap.size w wr b w2.heap.size xs (ys.take k) xs (ys.take k))) (fun _ i _ => m - (intOf i).toNat)
  case atStart => exact ⟨0, by omega, rfl, by rw [List.take_zero]; exact HP0⟩
  case round =>
    obtain ⟨k, hk, rfl, hp⟩ := hrel
    by_cases hlt : k < m
    · have hkx : k < ys.length := by rw [HL2.out]; exact hlt
      obtain ⟨ab, ao, rfl, hnc, hab, hcell⟩ := View.at HV2.out HL2.out (by omega)
      have kc : wr.cell? ⟨ab, ao + k, none⟩ = some (.int .i64 ys[k]) := by
        rw [World.cell?_of_block (w := w) (hp.out.2.1.block ab hab (by show ¬ w.heap.size ≤ ab; omega))]
        exact hcell k hkx
      have HD : Hid (ys.take (k + 1) = ys.take k ++ [ys[k]]) := List.take_succ_eq_append_getElem hkx
      generalize ys[k] = y at kc HD
      have htl : (ys.take k).length ≤ 100 := by simp; omega
      generalize ys.take k = ts at hp htl HD
      clear hcell HN HI HX
      go_wp2_with fail
      refine (pair_push y hp.out (by omega)).mono ?_
      rintro e w3 ⟨rfl, hp3⟩
      obtain ⟨Lv, hB3, hrb3, k3, f3, ho3, hnb3, hK3⟩ := pair_append hp3.out
      have HO3 := Lib.hid ho3
      have HNB := Lib.hid hnb3
      have HK := Lib.hid hK3
      clear ho3 hnb3 hK3
      go_wp2_with (at_builtin; refine wpList_append_fresh _ rfl _ _ 22 rfl w.heap.size 3 i0 (.int .i64 0) 1 8 Try.underlying22 hi hz0 hz1 hz2 rfl (by decide) _ _ _ rfl (HO3.out.alloc _) ⟨w3.heap.size, 0, none⟩ 1 1 [.int .i64 y] rfl rfl ?c1 ?c2 ?c3 ?c4 ?c5 ?grow)
      case c1 => intro j u hj; match j, hj with | 0, hj => simp at hj; subst hj; simp [Addr.add]
      case c2 => intro u hu; simp at hu; subst hu; rfl
      case c3 => unfold maxLen; omega
      case c4 => omega
      case c5 => simp only [World.size_alloc]; omega
      case grow =>
        intro v' w4 hown hgrow hfr
        obtain ⟨g4, cap4, rfl⟩ := own_shape hown
        have hu : Hid (Upd (fun k => Lv.ownBlock = some k) w3 w4) := (Upd.alloc _ w3 _).trans (Upd.grown hgrow (fun k h => h)) (fun _ _ h => h)
        have k4 := (World.cell?_of_block (a := ⟨w2.heap.size, 2, none⟩) (hu.out.block w2.heap.size hrb3 HNB.out)).trans k3
        have f4 := (World.frozen?_of_block (a := ⟨w2.heap.size, 2, none⟩) (hu.out.block w2.heap.size hrb3 HNB.out)).trans f3
        have hfr2 : Hid (Lv.ownBlock = some g4 ∨ w3.heap.size ≤ g4) := by
          rcases hfr.out with e | e
          · exact .inl e.symm
          · exact .inr (by have := e g4 rfl; omega)
        have HP := Lib.hid (HK.out w4 g4 cap4 y hown hu.out hfr2.out)
        clear hown hgrow hfr
        go_wp2
        go_roundw
        case rel => exact ⟨k + 1, by omega, by go_num, by rw [HD.out]; exact HP⟩
        case measure => simp [intOf]; omega
    · have hkm : k = m := by omega
      have hp2 := hp.out
      rw [List.take_of_length_le (by rw [HL2.out]; omega)] at hp2
      have HP : Hid (Like w.heap.size w wr b w2.heap.size) := ⟨xs, ys, hp2, by rw [HL.out]; omega, by rw [HL2.out]; omega⟩
      clear hp hp2 hkm HN HI HX
      generalize w2.heap.size = rb at HP
      obtain ⟨wo, rfl⟩ : ∃ wo : World, wo = wr := ⟨_, rfl⟩
      go_wp2_with fail
      go_loopw [11] (fun i wr => ∃ k : Nat, k ≤ turns ∧ i = .int .i64 k ∧ Hid (Like w.heap.size w wr b rb)) (fun i _ => turns - (intOf i).toNat)
      case atStart => exact ⟨0, by omega, rfl, HP⟩
      case round =>
        obtain ⟨t, ht, rfl, hlike⟩ := hrel
        obtain ⟨wt, rfl⟩ : ∃ wt : World, wt = wr := ⟨_, rfl⟩
        obtain ⟨scr, l, hp, hls, hll⟩ := hlike.out
        have HP1 := Lib.hid hp
        clear hlike HP hp
        by_cases hlt2 : t < turns
        · go_wp2_with fail
          refine (pair_list HP1.out (by omega)).mono ?_
          rintro e w3 ⟨v, rfl, hl3⟩
          obtain ⟨p, hpl⟩ : ∃ p, p = l.length := ⟨_, rfl⟩
          have hshape : ∃ a c, v = .slice a p c := by
            obtain ⟨a, c, h, _⟩ := ownsRow_view hl3.out.1
            exact ⟨a, c, by rw [hpl]; exact h⟩
          obtain ⟨a3, c3, rfl⟩ := hshape
          have HR3 : Hid (∃ zs, w3.ownsRow wt.heap.size 3 1 (.slice a3 p c3) p zs) := ⟨_, by have := hl3.out.1; rw [← hpl] at this; exact this⟩
          have HU3 : Hid (UpB wt.heap.size wt w3) := Upd.below hl3.out.2.1
          have hp100 : p ≤ 100 := by omega
          clear hl3 hpl
          go_wp2_with fail
          go_loopw [72] (fun i wr => ∃ k : Nat, k ≤ p ∧ i = .int .i64 k ∧ Hid (∃ zs, wr.ownsRow wt.heap.size 3 1 (.slice a3 p c3) p zs) ∧ Hid (UpB wt.heap.size wt wr)) (fun i _ => p - (intOf i).toNat)
          case atStart => exact ⟨0, by omega, rfl, HR3, HU3⟩
          case round =>
            obtain ⟨j, hj, rfl, hr4, hu4⟩ := hrel
            clear HR3 HU3
            by_cases hlt3 : j < p
            · obtain ⟨zs, hz⟩ := hr4.out
              obtain ⟨g, cap, hge⟩ : ∃ g cap, Value.slice a3 p c3 = .slice (some ⟨g, 0, none⟩) p cap := by
                rcases hz.2 with ⟨_, h⟩ | ⟨g, cap, _, h, _⟩
                · omega
                · exact ⟨g, cap, h⟩
              injection hge with e1 e2 e3
              subst e1; subst e3
              have hzl := hz.1
              have hc4 : wr.cell? ⟨g, j, none⟩ = some zs[j] := by
                rw [hz.cellAt j (by omega)]; exact List.getElem?_eq_getElem (by omega)
              have hf4 := hz.frozenAt j
              have hst := hz.stored j (.int .i64 (-1))
              have HS : Hid (∃ zs, (wr.setCell ⟨g, j, none⟩ (.int .i64 (-1))).ownsRow wt.heap.size 3 1 (.slice (some ⟨g, 0, none⟩) p c3) p zs) := ⟨_, hst.1⟩
              have HU : Hid (UpB wt.heap.size wt (wr.setCell ⟨g, j, none⟩ (.int .i64 (-1)))) := hu4.out.next (Upd.setCell _ _ _ (own_lt hz g rfl).1)
              clear hst hz hr4
              generalize zs[j] = z at hc4
              go_wp2
              go_roundw
              case rel => exact ⟨j + 1, by omega, by go_num, HS, HU⟩
              case measure => simp [intOf]; omega
            · obtain ⟨zs, hz⟩ := hr4.out
              have HZ := Lib.hid hz
              obtain ⟨w4, rfl⟩ : ∃ w4 : World, w4 = wr := ⟨_, rfl⟩
              have hsz4 := hu4.out.size
              clear hz hr4
              go_wp2_with (at_builtin; refine wpList_append_own _ rfl _ _ 22 rfl wt.heap.size 3 i0 (.int .i64 0) 1 8 Try.underlying22 hi hz0 hz1 hz2 rfl (by decide) _ _ _ rfl (HZ.out.alloc _) ⟨w4.heap.size, 0, none⟩ 1 1 [.int .i64 (-2)] rfl rfl ?d1 ?d2 ?d3 ?d4 ?d5 ?dgrow)
              case d1 => intro j u hj; match j, hj with | 0, hj => simp at hj; subst hj; simp [Addr.add]
              case d2 => intro u hu; simp at hu; subst hu; rfl
              case d3 => unfold maxLen; omega
              case d4 => omega
              case d5 => simp only [World.size_alloc]; omega
              case dgrow =>
                intro v' w5 hown hgrow _
                obtain ⟨g5, cap5, rfl⟩ := own_shape hown
                have HU5 : Hid (UpB wt.heap.size wt w5) := (hu4.out.next (Upd.alloc _ w4 _)).next (Upd.grown hgrow (fun k hk => (own_lt HZ.out k hk).1))
                have HP5 := Lib.hid (HP1.out.up HU5.out)
                clear hown hgrow HU5 hu4 HZ
                go_wp2_with fail
                refine (pair_next HP5.out (by omega) (by omega)).mono ?_
                rintro e w6 ⟨rfl, hp6⟩
                go_wp2_with fail
                refine (pair_rnext hp6.out (by omega)).mono ?_
                rintro e w7 ⟨rfl, hp7⟩
                have hn7 : (nextList scr l).length ≤ 100 := Nat.le_trans (nextList_len scr l) hll
                have hs7 : scr.tail.length ≤ 200 := Nat.le_trans (tail_len scr) hls
                by_cases hne : l = []
                · have HL7 : Hid (Like w.heap.size w w7 b rb) := ⟨_, _, hp7.out, hs7, hn7⟩
                  have hdec : okB l = false := by rw [hne]; rfl
                  rw [hdec]
                  generalize nextVal scr l = x
                  have e1 : (x != x) = false := by simp
                  clear hn7 hs7 hp6 hp7 hne hdec HP1 HP5
                  go_wp2
                  go_roundw
                  case rel => exact ⟨t + 1, by omega, by go_num, HL7⟩
                  case measure => simp [intOf]; omega
                · have hn8 := nextList_lt scr l hne
                  have hdec : okB l = true := okB_ne hne
                  rw [hdec]
                  generalize nextVal scr l = x
                  generalize nextList scr l = l7 at hp7 hn7 hn8
                  generalize scr.tail = scr7 at hp7 hs7
                  have e1 : (x != x) = false := by simp
                  clear hp6 hne hdec HP1 HP5
                  go_wp2_with fail
                  refine (pair_push x hp7.out (by omega)).mono ?_
                  rintro e w8 ⟨rfl, hp8⟩
                  obtain ⟨Lv, hB8, hrb8, k8, f8, ho8, hnb8, hK8⟩ := pair_append hp8.out
                  have HO8 := Lib.hid ho8
                  have HNB := Lib.hid hnb8
                  have HK := Lib.hid hK8
                  clear ho8 hnb8 hK8
                  go_wp2_with (at_builtin; refine wpList_append_fresh _ rfl _ _ 22 rfl w.heap.size 3 i0 (.int .i64 0) 1 8 Try.underlying22 hi hz0 hz1 hz2 rfl (by decide) _ _ _ rfl (HO8.out.alloc _) ⟨w8.heap.size, 0, none⟩ 1 1 [.int .i64 x] rfl rfl ?f1 ?f2 ?f3 ?f4 ?f5 ?fgrow)
                  case f1 => intro j u hj; match j, hj with | 0, hj => simp at hj; subst hj; simp [Addr.add]
                  case f2 => intro u hu; simp at hu; subst hu; rfl
                  case f3 => unfold maxLen; omega
                  case f4 => omega
                  case f5 => simp only [World.size_alloc]; omega
                  case fgrow =>
                    intro v' w9 hown hgrow hfr
                    obtain ⟨g9, cap9, rfl⟩ := own_shape hown
                    have hu : Hid (Upd (fun k => Lv.ownBlock = some k) w8 w9) := (Upd.alloc _ w8 _).trans (Upd.grown hgrow (fun k h => h)) (fun _ _ h => h)
                    have k9 := (World.cell?_of_block (a := ⟨rb, 2, none⟩) (hu.out.block rb hrb8 HNB.out)).trans k8
                    have f9 := (World.frozen?_of_block (a := ⟨rb, 2, none⟩) (hu.out.block rb hrb8 HNB.out)).trans f8
                    have hfr2 : Hid (Lv.ownBlock = some g9 ∨ w8.heap.size ≤ g9) := by
                      rcases hfr.out with e | e
                      · exact .inl e.symm
                      · exact .inr (by have := e g9 rfl; omega)
                    have HL9 : Hid (Like w.heap.size w (w9.setCell ⟨rb, 2, none⟩ (.slice (some ⟨g9, 0, none⟩) (l7.length + 1) cap9)) b rb) := ⟨_, _, HK.out w9 g9 cap9 x hown hu.out hfr2.out, hs7, by simp; omega⟩
                    clear hown hgrow hfr hp7 hp8
                    go_wp2
                    go_roundw
                    case rel => exact ⟨t + 1, by omega, by go_num, HL9⟩
                    case measure => simp [intOf]; omega
        · obtain ⟨p, hpl⟩ : ∃ p, l.length = p := ⟨_, rfl⟩
          have hp100 : p ≤ 100 := by omega
          obtain ⟨ra, rc, k0, HC0⟩ := pair_both (w := wt.drew) (HP1.out.up (Upd.drew _ wt)) hpl (by omega)
          have k1 : wt.cell? ⟨rb, 2, none⟩ = some (.slice ra p rc) := k0
          have HPL := Lib.hid hpl
          clear k0 hpl HP1 hls hll
          go_wp2
          go_region_with (first | (go_at_call 10; refine HC0.out.mono ?_; rintro e w4 ⟨a4, c4, rfl, k4, hv4, hr4, hp4⟩) | (go_at_call 13; refine (ints_same _ _ _ _ _ l _ HPL.out (Hid.out (by assumption)) (Hid.out (by assumption)) (by omega)).mono ?_; rintro e w5 ⟨rfl, rfl⟩))
          all_goals
            go_wp2
            go_ret
            refine ⟨rfl, UpB.toBelow (Hid.out (p := Pair w.heap.size w _ b rb scr l scr l) (by assumption)).2.1 (Nat.le_refl _)⟩

end Go.Proofs.Ytoffodgjpeeenaa
