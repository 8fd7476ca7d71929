import Derived.Test.YtoffodgjpeeenaaS1
namespace Go.Proofs.Ytoffodgjpeeenaa
open Go.RowKit

/-- A slice of steps that came in. -/
def Ops (w : World) (a : Option Addr) (m : Nat) (K X : Nat → Int) : Prop :=
  0 < m → ∃ b o, a = some ⟨b, o, none⟩ ∧ b < w.heap.size ∧ ∀ i, i < m → w.cell? ⟨b, o + i * 2, none⟩ = some (.int .i64 (K i)) ∧ w.cell? ⟨b, o + i * 2 + 1, none⟩ = some (.int .i64 (X i))

theorem Try.info37 : (Try.prog.info? 37).map (fun i => (i.zero, i.size, i.bytes)) = some (some (.agg #[.int .i64 0, .int .i64 0]), 2, 16) := by kernel_rfl

/-- A copy of the schedule has been made, at block 'g' or nowhere. -/
def Copied (w w' : World) (v : Value) (n : Nat) : Prop := ∃ zs, w'.ownsRow w.heap.size 3 1 v n zs

set_option maxHeartbeats 4000000 in
set_option maxRecDepth 100000 in
theorem plays_walk (a : Option Addr) (n c : Nat) (xs : List Int) (a2 : Option Addr) (m c2 : Nat) (K X : Nat → Int) (w : World) (hn : xs.length = n) (hv : View w (.slice a n c) xs) (htop : ∀ x ∈ xs, -9223372036854775808 ≤ x ∧ x ≤ 9223372036854775807) (hx : ∀ k, (Value.slice a n c).ownBlock = some k → xs ≠ [] → k < w.heap.size)
    (hops : Ops w a2 m K X) (hsome : a ≠ none)
    (h1 : n ≤ 1000) (h2 : m ≤ 1000) :
    Calls Try.prog 4 #[.slice a n c, .slice a2 m c2] w fun e w' => e = .returned (.bool true) ∧ Below w.heap.size w w' := by
  obtain ⟨i0, hi, hz0, hz1, hz2⟩ := info_parts Try.info3
  have HA := Lib.hid (anchor_any w)
  have HX : Hid (∀ w1, UpB w.heap.size w w1 → View w1 (.slice a n c) xs) := fun w1 hu => hv.updne hu (fun hne k hk => by have := hx k hk hne; omega)
  have HI := Lib.hid (fun (w1 : World) (b : Nat) (ho : Own w.heap.size b w w1 xs []) => pair_init (Sv := .slice a n c) (S := xs) ho (HX.out w1 ho.2.1) (by omega) (fun x hx => (htop x hx).2) (fun hne k hk => hx k hk hne))
  obtain ⟨ad, rfl⟩ := Option.ne_none_iff_exists'.1 hsome
  have HS : Hid (∀ w1, UpB w.heap.size w w1 → ∀ j u, (xs.map (Value.int .i64))[j]? = some u → w1.cell? (ad.add j) = some u) := by
    intro w1 hu j u hj
    obtain ⟨a', c', he, _, hc⟩ := HX.out w1 hu
    injection he with e1
    subst e1
    have hjl : j < xs.length := by have := (List.getElem?_eq_some_iff.1 hj).1; simpa using this
    obtain ⟨b, o, e2, hcell⟩ := hc (by intro e; simp [e] at hjl)
    injection e2 with e2
    subst e2
    rw [Addr.add_lit, hcell j hjl]
    simpa [List.getElem?_eq_getElem hjl] using hj
  have HT := Lib.hid htop
  have HO := Lib.hid hops
  have HL := Lib.hid hn
  clear hv htop hx hn hops hsome
  go_enter Try.func4, Try.ntmps4
  go_wp2_with fail
  refine HA.out.mono ?_
  rintro e w1 ⟨rfl, hu1⟩
  have hsz1 := hu1.out.size
  have HSA := Lib.hid (HS.out _ (hu1.out.next (Upd.alloc _ w1 (.cells #[] 3))))
  go_wp2_with (at_builtin; refine wpList_append_own _ rfl _ _ 22 rfl w.heap.size 3 i0 (.int .i64 0) 1 8 Try.underlying22 hi hz0 hz1 hz2 rfl (by decide) _ _ _ rfl (World.ownsRow_made w1 #[] 0 hsz1 (Nat.zero_le _) rfl) ad n c (xs.map (.int .i64)) rfl ?c1 HSA.out ?c2 ?c3 ?c4 ?c5 ?grow)
  case c1 => rw [List.length_map, HL.out, Nat.mul_one]
  case c2 => intro u hu; obtain ⟨x, _, rfl⟩ := List.mem_map.1 hu; rfl
  case c3 => unfold maxLen; omega
  case c4 => omega
  case c5 => simp only [World.size_alloc]; omega
  case grow =>
    intro v' w2 hown hgrow _
    have hu2 : Hid (UpB w.heap.size w w2) := (hu1.out.next (Upd.alloc _ w1 _)).next (Upd.grown hgrow (fun k hk => by simp [Value.ownBlock] at hk; omega))
    have hvw : View w2 v' xs := ownsRow_view (by rw [HL.out]; exact hown)
    have hlt := own_lt hown
    have HR : Hid (Copied w w2 v' n) := ⟨_, hown⟩
    have HN := Lib.hid (new_q w.heap.size v' xs w2 hvw (by rw [HL.out]; omega) (fun x hx => (HT.out x hx).2))
    obtain ⟨a3, c3, rfl⟩ : ∃ a3 c3, v' = .slice a3 n c3 := by
      obtain ⟨a, c, h, _⟩ := hvw
      exact ⟨a, c, by rw [HL.out] at h; exact h⟩
    have HLT := Lib.hid hlt
    clear hown hgrow hvw hlt
    go_wp2_with fail
    refine HN.out.mono ?_
    rintro e w3 ⟨b, sv, rfl, hq3, hu3, hb3, hs3⟩
    have HQ3 : Hid (∃ sv, Que w.heap.size w3 b sv (.slice none 0 0) xs [] ∧ ∀ k, sv.ownBlock = some k → w2.heap.size ≤ k) := ⟨sv, hq3, hs3⟩
    have HR3 : Hid (Copied w w3 (.slice a3 n c3) n) := by
      obtain ⟨zs, hz⟩ := HR.out
      exact ⟨zs, ownsRow_upd hz hu3 (fun _ _ h => h)⟩
    have HU3 : Hid (UpB w.heap.size w w3) := hu2.out.next (UpB.none hu3)
    have hbw : w.heap.size ≤ b := Nat.le_trans hu2.out.size hb3
    clear hq3 hu3 hs3 HR
    go_wp2_with fail
    go_loopw [7, 30] (fun _ i wr => ∃ k : Nat, k ≤ n ∧ i = .int .i64 k ∧ Hid (Copied w wr (.slice a3 n c3) n) ∧ Hid (UpB w.heap.size w wr) ∧ Hid (∃ sv, Que w.heap.size wr b sv (.slice none 0 0) xs [] ∧ ∀ k, sv.ownBlock = some k → w2.heap.size ≤ k)) (fun _ i _ => n - (intOf i).toNat)
    case atStart => exact ⟨0, by omega, rfl, HR3, HU3, HQ3⟩
    case round =>
      obtain ⟨k, hk, rfl, hr4, hu4, hq4⟩ := hrel
      clear HR3 HU3 HQ3
      by_cases hlt3 : k < n
      · obtain ⟨zs, hz⟩ := hr4.out
        obtain ⟨g, cap, hge⟩ : ∃ g cap, Value.slice a3 n c3 = .slice (some ⟨g, 0, none⟩) n cap := by
          rcases hz.2 with ⟨_, h⟩ | ⟨g, cap, _, h, _⟩
          · omega
          · exact ⟨g, cap, h⟩
        injection hge with e1 e2 e3
        subst e1; subst e3
        have hzl := hz.1
        have hc4 : wr.cell? ⟨g, k, none⟩ = some zs[k] := by
          rw [hz.cellAt k (by omega)]; exact List.getElem?_eq_getElem (by omega)
        have hf4 := hz.frozenAt k
        have hst := hz.stored k (.int .i64 (-77))
        have hg2 := (HLT.out g rfl).2
        have hg1 := (HLT.out g rfl).1
        have HS5 : Hid (Copied w (wr.setCell ⟨g, k, none⟩ (.int .i64 (-77))) (.slice (some ⟨g, 0, none⟩) n c3) n) := ⟨_, hst.1⟩
        have HU5 : Hid (UpB w.heap.size w (wr.setCell ⟨g, k, none⟩ (.int .i64 (-77)))) := hu4.out.next (Upd.setCell _ _ _ hg1)
        have HQ5 : Hid (∃ sv, Que w.heap.size (wr.setCell ⟨g, k, none⟩ (.int .i64 (-77))) b sv (.slice none 0 0) xs [] ∧ ∀ k, sv.ownBlock = some k → w2.heap.size ≤ k) := by
          obtain ⟨sv, hq, hs⟩ := hq4.out
          exact ⟨sv, hq.upd (Upd.setCell (S := fun k => k = g) wr ⟨g, k, none⟩ _ rfl) (by omega) (fun k hk => by have := hs k hk; omega) (fun k hk => by simp [Value.ownBlock] at hk), hs⟩
        clear hst hz hr4 hu4 hq4
        generalize zs[k] = z at hc4
        go_wp2
        go_roundw
        case rel => exact ⟨k + 1, by omega, by go_num, HS5, HU5, HQ5⟩
        case measure => simp [intOf]; omega
      · obtain ⟨w5, rfl⟩ : ∃ w5 : World, w5 = wr := ⟨_, rfl⟩
        obtain ⟨sv, hq5, _⟩ := hq4.out
        have HP0 := Lib.hid (HI.out w5 b ⟨hbw, hu4.out, hu4.out.size, sv, _, hq5⟩)
        clear hq5 hq4 hr4 HN HS HSA HI HX HLT
        go_wp2_with fail
        have HL0 : Hid (∃ scr l, Pair w.heap.size w (w5.alloc (.cells #[.slice (some ad) n c, .int .i64 0, .slice none 0 0] 28)) b w5.heap.size scr l scr l ∧ scr.length ≤ 1000 ∧ l.length ≤ 0) := ⟨xs, [], HP0.out, by rw [HL.out]; exact h1, by simp⟩
        generalize (w5.alloc (.cells #[.slice (some ad) n c, .int .i64 0, .slice none 0 0] 28)) = w6 at HL0 ⊢
        generalize w5.heap.size = rb at HL0 ⊢
        clear HP0
        go_loopw [10, 42] (fun _ i wr => ∃ k : Nat, k ≤ m ∧ i = .int .i64 k ∧ Hid (∃ scr l, Pair w.heap.size w wr b rb scr l scr l ∧ scr.length ≤ 1000 ∧ l.length ≤ k)) (fun _ i _ => m - (intOf i).toNat)
        case atStart => exact ⟨0, by omega, rfl, HL0⟩
        case round =>
          obtain ⟨k2, hk2, rfl, hl⟩ := hrel
          clear HL0
          obtain ⟨w7, rfl⟩ : ∃ w7 : World, w7 = wr := ⟨_, rfl⟩
          obtain ⟨scr, l, hp, hs, hll⟩ := hl.out
          by_cases hlt4 : k2 < m
          · obtain ⟨ob, oo, rfl, hob, hcell⟩ := HO.out (by omega)
            obtain ⟨kc0, kc1⟩ := hcell k2 hlt4
            have kd0 := (World.cell?_of_block (a := ⟨ob, oo + k2 * 2, none⟩) (hp.2.1.block ob hob (by show ¬ w.heap.size ≤ ob; omega))).trans kc0
            have kd1 := (World.cell?_of_block (a := ⟨ob, oo + k2 * 2 + 1, none⟩) (hp.2.1.block ob hob (by show ¬ w.heap.size ≤ ob; omega))).trans kc1
            have HQ := Lib.hid (fun (w8 : World) (hu : UpB w7.heap.size w7 w8) => step_any (K k2) (X k2) w8 (hp.up hu) hs (by omega))
            generalize K k2 = kk at kd0 HQ
            generalize X k2 = xx at kd1 HQ
            clear hcell kc0 kc1 hl hp
            go_wp2_with fail
            refine (HQ.out _ (Upd.alloc _ w7 _)).mono ?_
            rintro e w8 ⟨rfl, hw8⟩
            have HW : Hid (∃ scr l, Pair w.heap.size w w8 b rb scr l scr l ∧ scr.length ≤ 1000 ∧ l.length ≤ k2 + 1) := by
              obtain ⟨scr', l', hp', hs', hl'⟩ := hw8.out
              exact ⟨scr', l', hp', by omega, by omega⟩
            clear hw8 HQ
            go_wp2
            go_roundw
            case rel => exact ⟨k2 + 1, by omega, by go_num, HW⟩
            case measure => simp [intOf]; omega
          · have hp2 := hp.2.1
            clear hl hp
            go_wp2
            go_ret
            exact ⟨rfl, UpB.toBelow hp2 (Nat.le_refl _)⟩

set_option maxHeartbeats 4000000 in
set_option maxRecDepth 100000 in
theorem plays_none (a2 : Option Addr) (m c2 : Nat) (K X : Nat → Int) (w : World) (hops : Ops w a2 m K X) (h2 : m ≤ 1000) :
    Calls Try.prog 4 #[.slice none 0 0, .slice a2 m c2] w fun e w' => e = .returned (.bool true) ∧ Below w.heap.size w w' := by
  have HA := Lib.hid (anchor_any w)
  have HI := Lib.hid (fun (w1 : World) (b : Nat) (ho : Own w.heap.size b w w1 [] []) => pair_init (Sv := .slice none 0 0) (S := []) ho ⟨none, 0, rfl, Nat.le_refl _, fun h => absurd rfl h⟩ (by simp) (by simp) (fun h => absurd rfl h))
  have HO := Lib.hid hops
  clear hops
  go_enter Try.func4, Try.ntmps4
  go_wp2_with fail
  refine HA.out.mono ?_
  rintro e w1 ⟨rfl, hu1⟩
  go_wp2_with fail
  have HN := Lib.hid (fun (w2 : World) => new_q w.heap.size (.slice (some ⟨w1.heap.size, 0, none⟩) 0 0) [] w2 ⟨_, 0, rfl, Nat.le_refl _, fun h => absurd rfl h⟩ (by simp) (by simp))
  have hu2 : Hid (UpB w.heap.size w (w1.alloc (.cells #[] 3))) := hu1.out.next (Upd.alloc _ w1 _)
  refine (HN.out _).mono ?_
  rintro e w5 ⟨b, sv, rfl, hq3, hu3, hb3, hs3⟩
  have hu5 : UpB w.heap.size w w5 := hu2.out.next (UpB.none hu3)
  have HP0 := Lib.hid (HI.out w5 b ⟨Nat.le_trans hu2.out.size hb3, hu5, hu5.size, sv, _, hq3⟩)
  clear hq3 hu3 hs3 hu2 HN hu5 HI
  go_wp2_with fail
  go_loopw [7, 30] (fun _ i wr => i = .int .i64 0 ∧ w5 = wr) (fun _ i _ => 0)
  case atStart => exact ⟨rfl, rfl⟩
  case round =>
    obtain ⟨rfl, rfl⟩ := hrel
    go_wp2_with fail
    have HL0 : Hid (∃ scr l, Pair w.heap.size w (w5.alloc (.cells #[.slice none 0 0, .int .i64 0, .slice none 0 0] 28)) b w5.heap.size scr l scr l ∧ scr.length ≤ 1000 ∧ l.length ≤ 0) := ⟨[], [], HP0.out, by simp, by simp⟩
    generalize (w5.alloc (.cells #[.slice none 0 0, .int .i64 0, .slice none 0 0] 28)) = w6 at HL0 ⊢
    generalize w5.heap.size = rb at HL0 ⊢
    clear HP0
    go_loopw [10, 42] (fun _ i wr => ∃ k : Nat, k ≤ m ∧ i = .int .i64 k ∧ Hid (∃ scr l, Pair w.heap.size w wr b rb scr l scr l ∧ scr.length ≤ 1000 ∧ l.length ≤ k)) (fun _ i _ => m - (intOf i).toNat)
    case atStart => exact ⟨0, by omega, rfl, HL0⟩
    case round =>
      obtain ⟨k2, hk2, rfl, hl⟩ := hrel
      clear HL0
      obtain ⟨w7, rfl⟩ : ∃ w7 : World, w7 = wr := ⟨_, rfl⟩
      obtain ⟨scr, l, hp, hs, hll⟩ := hl.out
      by_cases hlt4 : k2 < m
      · obtain ⟨ob, oo, rfl, hob, hcell⟩ := HO.out (by omega)
        obtain ⟨kc0, kc1⟩ := hcell k2 hlt4
        have kd0 := (World.cell?_of_block (a := ⟨ob, oo + k2 * 2, none⟩) (hp.2.1.block ob hob (by show ¬ w.heap.size ≤ ob; omega))).trans kc0
        have kd1 := (World.cell?_of_block (a := ⟨ob, oo + k2 * 2 + 1, none⟩) (hp.2.1.block ob hob (by show ¬ w.heap.size ≤ ob; omega))).trans kc1
        have HQ := Lib.hid (fun (w8 : World) (hu : UpB w7.heap.size w7 w8) => step_any (K k2) (X k2) w8 (hp.up hu) hs (by omega))
        generalize K k2 = kk at kd0 HQ
        generalize X k2 = xx at kd1 HQ
        clear hcell kc0 kc1 hl hp
        go_wp2_with fail
        refine (HQ.out _ (Upd.alloc _ w7 _)).mono ?_
        rintro e w8 ⟨rfl, hw8⟩
        have HW : Hid (∃ scr l, Pair w.heap.size w w8 b rb scr l scr l ∧ scr.length ≤ 1000 ∧ l.length ≤ k2 + 1) := by
          obtain ⟨scr', l', hp', hs', hl'⟩ := hw8.out
          exact ⟨scr', l', hp', by omega, by omega⟩
        clear hw8 HQ
        go_wp2
        go_roundw
        case rel => exact ⟨k2 + 1, by omega, by go_num, HW⟩
        case measure => simp [intOf]; omega
      · have hp2 := hp.2.1
        clear hl hp
        go_wp2
        go_ret
        exact ⟨rfl, UpB.toBelow hp2 (Nat.le_refl _)⟩

set_option maxHeartbeats 800000 in
theorem plays_guard (a : Option Addr) (n c : Nat) (a2 : Option Addr) (m c2 : Nat) (w : World) (hn : n ≤ 9223372036854775807) (hm : m ≤ 9223372036854775807) (h : 1000 < n ∨ 1000 < m) :
    Calls Try.prog 4 #[.slice a n c, .slice a2 m c2] w fun e w' => e = .returned (.bool true) ∧ Below w.heap.size w w' := by
  have HA := Lib.hid (anchor_any w)
  by_cases h1 : 1000 < n
  · clear h
    go_enter Try.func4, Try.ntmps4
    go_wp2_with fail
    refine HA.out.mono ?_
    rintro e w1 ⟨rfl, hu1⟩
    go_wp2
    go_ret
    exact ⟨rfl, UpB.toBelow hu1.out (Nat.le_refl _)⟩
  · have h2 : 1000 < m := by omega
    clear h
    go_enter Try.func4, Try.ntmps4
    go_wp2_with fail
    refine HA.out.mono ?_
    rintro e w1 ⟨rfl, hu1⟩
    go_wp2
    go_ret
    exact ⟨rfl, UpB.toBelow hu1.out (Nat.le_refl _)⟩

theorem plays_any (a : Option Addr) (n c : Nat) (xs : List Int) (a2 : Option Addr) (m c2 : Nat) (K X : Nat → Int) (w : World) (hn : xs.length = n) (hv : View w (.slice a n c) xs) (htop : ∀ x ∈ xs, -9223372036854775808 ≤ x ∧ x ≤ 9223372036854775807) (hx : ∀ k, (Value.slice a n c).ownBlock = some k → xs ≠ [] → k < w.heap.size)
    (hops : Ops w a2 m K X) (hnil : a = none → n = 0 ∧ c = 0) (hnc : n ≤ 9223372036854775807) (hmc : m ≤ 9223372036854775807) :
    Calls Try.prog 4 #[.slice a n c, .slice a2 m c2] w fun e w' => e = .returned (.bool true) ∧ Below w.heap.size w w' := by
  by_cases h : 1000 < n ∨ 1000 < m
  · exact plays_guard a n c a2 m c2 w hnc hmc h
  · by_cases ha : a = none
    · obtain ⟨rfl, rfl⟩ := hnil ha
      subst ha
      exact plays_none a2 m c2 K X w hops (by omega)
    · exact plays_walk a n c xs a2 m c2 K X w hn hv htop hx hops ha (by omega) (by omega)

end Go.Proofs.Ytoffodgjpeeenaa
