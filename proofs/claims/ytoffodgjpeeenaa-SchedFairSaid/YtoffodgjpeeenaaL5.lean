import Derived.Test.YtoffodgjpeeenaaP3
import Derived.Test.YtoffodgjpeeenaaF
import Derived.Deep.RegionLaw
namespace Go.Proofs.Ytoffodgjpeeenaa
open Go.RowKit

/-- A list of the call's own, as a value. -/
def Row (B : Nat) (w : World) (v : Value) (xs : List Int) : Prop := w.ownsRow B 3 1 v xs.length (xs.map (.int .i64))

theorem Row.shape {B : Nat} {w : World} {v : Value} {xs : List Int} (h : Row B w v xs) : ∃ a c, v = .slice a xs.length c := by
  obtain ⟨a, c, h, _⟩ := ownsRow_view h
  exact ⟨a, c, h⟩

/-- The state in the turns. -/
def Turns (B : Nat) (w0 w : World) (b pb : Nat) (ys : List Int) (now : Int) : Prop :=
  ∃ scr l, Two B w0 w b pb scr l [] ys ∧ (l ++ [now]).Perm (ys ++ [-5]) ∧ scr.length ≤ 500

theorem Turns.len {ys l : List Int} {now : Int} (h : (l ++ [now]).Perm (ys ++ [-5])) : l.length = ys.length := by
  have := h.length_eq
  simpa using this

theorem Row.up {B : Nat} {w w' : World} {v : Value} {xs : List Int} (h : Row B w v xs) (hu : UpB w.heap.size w w') : Row B w' v xs :=
  ownsRow_upd h hu (fun k hk => by have := (own_lt h k hk).2; omega)

theorem Row.made {B : Nat} (w : World) (hB : B ≤ w.heap.size) : Row B (w.alloc (.cells #[] 3)) (.slice (some ⟨w.heap.size, 0, none⟩) 0 0) [] :=
  World.ownsRow_made w #[] 0 hB (Nat.zero_le _) rfl

theorem one_view (w : World) (x : Int) : View (w.alloc (.cells #[.int .i64 x] 3)) (.slice (some ⟨w.heap.size, 0, none⟩) 1 1) [x] :=
  ⟨_, 1, rfl, Nat.le_refl _, fun _ => ⟨_, 0, rfl, fun i hi => by
    match i, hi with
    | 0, _ => unfold World.cell?; rw [heap_alloc_new]; rfl⟩⟩

theorem Row.low {B : Nat} {w : World} {v : Value} {xs : List Int} (h : Row B w v xs) : Row 0 w v xs := by
  refine ⟨h.1, ?_⟩
  rcases h.2 with h3 | ⟨g', c', cur, h3, h4, h5⟩
  · exact .inl h3
  · exact .inr ⟨g', c', cur, h3, Nat.zero_le _, h5⟩

/-- What an append to a row of the call's own comes to. -/
theorem Row.grown {B : Nat} {w w' : World} {v v' : Value} {n : Nat} {xs ys : List Int} (hr : Row B w v xs) (hn : xs.length = n) (h : Hid (w'.ownsRow B 3 1 v' (n + ys.length) ((xs ++ ys).map (.int .i64)) ∧ w.grownBy w' v.ownBlock)) :
    Row B w' v' (xs ++ ys) ∧ UpB B w w' := by
  subst hn
  refine ⟨by unfold Row; rw [List.length_append]; exact h.out.1, Upd.grown h.out.2 (fun k hk => (own_lt hr k hk).1)⟩

theorem app_run {B : Nat} {w : World} {v : Value} {xs : List Int} {n : Nat} {v2 : Value} {ys : List Int} {k : Nat} (ty : TypeId) (hr : Row B w v xs) (hn : xs.length = n) (hv : View w v2 ys) (hk : ys.length = k) (hlen : n + k ≤ 1000000) (hB : B ≤ w.heap.size) :
    ∃ a' c' w', (Builtin.append_ #[22, 22] ty #[v, v2]).run Try.prog w = .ok (.slice a' (n + k) c') w' ∧ Row B w' (.slice a' (n + k) c') (xs ++ ys) ∧ UpB B w w' := by
  obtain ⟨i0, hi, hz0, hz1, hz2⟩ := info_parts Try.info3
  subst hn; subst hk
  obtain ⟨v', w', hrun, h2, h3⟩ := run_append_view (P := Try.prog) w B 22 ty 3 i0 (.int .i64 0) Try.underlying22 hi hz0 hz1 hz2 rfl v xs.length xs hr v2 ys hv hlen hB
  have hg := hr.grown rfl ⟨h2, h3⟩
  obtain ⟨a', c', hs⟩ := hg.1.shape
  rw [List.length_append] at hs
  subst hs
  exact ⟨a', c', w', hrun, hg.1, hg.2⟩

theorem wpList_app {w : World} {ops : Array Oper} {rest : List Oper} {o : Oper} {a : Act} {Q : Exit → Act → World → Prop} (hgd : o.guard = none) (s x : Operand)
    (ho : o.op = .call { callee := .builtin .append, args := #[s, x], argTypes := #[22, 22] }) (B : Nat) (v : Value) (n : Nat) (xs : List Int) (hs : a.eval s = v) (hr : Hid (Row B w v xs)) (hn : Hid (xs.length = n))
    (v2 : Value) (k : Nat) (ys : List Int) (hx : a.eval x = v2) (hv : Hid (View w v2 ys)) (hk : Hid (ys.length = k)) (hlen : n + k ≤ 1000000) (hB : B ≤ w.heap.size)
    (h : ∀ a' c' w', Hid (Row B w' (.slice a' (n + k) c') (xs ++ ys)) → Hid (UpB B w w') → wpList Try.prog ops Q rest (a.put o.dst (.slice a' (n + k) c')) w') : wpList Try.prog ops Q (o :: rest) a w := by
  refine wpList_plain hgd fun K hK => ?_
  obtain ⟨a', c', w', hrun, h1, h2⟩ := app_run o.type hr.out hn.out hv.out hk.out hlen hB
  unfold Oper.wp execOp
  simp only [ho, resolve, invoke, builtin, Sem.run_bind, Sem.run_pure, Result.andThen_ok, List.map_toArray, List.map_cons, List.map_nil, hs, hx, hrun]
  exact hK _ _ (h a' c' w' h1 h2)

theorem step_app {w : World} {ops : Array Oper} {o : Oper} {a : Act} {K : Act → World → Prop} {Q : Exit → Act → World → Prop} {E : Prop} (hgd : o.guard = none) (s x : Operand)
    (ho : o.op = .call { callee := .builtin .append, args := #[s, x], argTypes := #[22, 22] }) (B : Nat) (v : Value) (n : Nat) (xs : List Int) (hs : a.eval s = v) (hr : Hid (Row B w v xs)) (hn : Hid (xs.length = n))
    (v2 : Value) (k : Nat) (ys : List Int) (hx : a.eval x = v2) (hv : Hid (View w v2 ys)) (hk : Hid (ys.length = k)) (hlen : n + k ≤ 1000000) (hB : B ≤ w.heap.size)
    (h : ∀ a' c' w', Hid (Row B w' (.slice a' (n + k) c') (xs ++ ys)) → Hid (UpB B w w') → K (a.put o.dst (.slice a' (n + k) c')) w') :
    if Region.wanted o (yielded ops a.tmps) = true then Oper.wp Try.prog o a w K Q else E := by
  have hw : Region.wanted o (yielded ops a.tmps) = true := by simp [Region.wanted, hgd]
  rw [if_pos hw]
  obtain ⟨a', c', w', hrun, h1, h2⟩ := app_run o.type hr.out hn.out hv.out hk.out hlen hB
  unfold Oper.wp execOp
  simp only [ho, resolve, invoke, builtin, Sem.run_bind, Sem.run_pure, Result.andThen_ok, List.map_toArray, List.map_cons, List.map_nil, hs, hx, hrun]
  exact h a' c' w' h1 h2

set_option maxHeartbeats 8000000 in
set_option maxRecDepth 100000 in
theorem fair_walk (a : Option Addr) (n c : Nat) (xs : List Int) (a2 : Option Addr) (m c2 : Nat) (ys : List Int) (turns : Nat) (w : World) (hn : xs.length = n) (hv : View w (.slice a n c) xs) (htop : ∀ x ∈ xs, -9223372036854775808 ≤ x ∧ x ≤ 9223372036854775807) (hx : ∀ k, (Value.slice a n c).ownBlock = some k → xs ≠ [] → k < w.heap.size)
    (hm : ys.length = m) (hv2 : View w (.slice a2 m c2) ys) (hx2 : ∀ k, (Value.slice a2 m c2).ownBlock = some k → ys ≠ [] → k < w.heap.size)
    (h1 : n ≤ 500) (h2 : m ≤ 200) (h3 : turns ≤ 300) :
    Calls Try.prog 5 #[.slice a n c, .slice a2 m c2, .int .i64 turns] w fun e w' => e = .returned (.bool true) ∧ Below w.heap.size w w' := by
  obtain ⟨i0, hi, hz0, hz1, hz2⟩ := info_parts Try.info3
  have HA := Lib.hid (anchor_any w)
  have HX : Hid (∀ w1, UpB w.heap.size w w1 → View w1 (.slice a n c) xs) := fun w1 hu => hv.updne hu (fun hne k hk => by have := hx k hk hne; omega)
  have HY : Hid (∀ w1, UpB w.heap.size w w1 → View w1 (.slice a2 m c2) ys) := fun w1 hu => hv2.updne hu (fun hne k hk => by have := hx2 k hk hne; omega)
  have HN := Lib.hid (fun (w1 : World) (hu : UpB w.heap.size w w1) => own_new w.heap.size (.slice a n c) xs w w1 (HX.out w1 hu) (by omega) (fun x hx => (htop x hx).2) hu.size hu)
  have HV2 := Lib.hid hv2
  have HL2 := Lib.hid hm
  have HL := Lib.hid hn
  clear hv htop hx hn hv2 hm hx2
  go_enter Try.func5, Try.ntmps5
  go_wp2_with fail
  refine HA.out.mono ?_
  rintro e w1 ⟨rfl, hu1⟩
  go_wp2_with fail
  refine (HN.out w1 hu1.out).mono ?_
  rintro e w2 ⟨b, rfl, ho2⟩
  go_wp2_with fail
  refine (two_new ho2.out.1).mono ?_
  rintro e w3 ⟨pb, rfl, hp3⟩
  clear HN HX HA
  go_wp2_with fail
  go_loopw [10, 52] (fun _ i wr => ∃ k : Nat, k ≤ m ∧ i = .int .i64 k ∧ Hid (Two w.heap.size w wr b pb xs (ys.take k) [] (ys.take k))) (fun _ i _ => m - (intOf i).toNat)
  case atStart => exact ⟨0, by omega, rfl, by rw [List.take_zero]; exact hp3⟩
  case round =>
    obtain ⟨k, hk, rfl, hp⟩ := hrel
    by_cases hlt : k < m
    · have hkx : k < ys.length := by rw [HL2.out]; exact hlt
      obtain ⟨ab, ao, rfl, hnc, hab, hcell⟩ := View.at HV2.out HL2.out (by omega)
      have kc : wr.cell? ⟨ab, ao + k, none⟩ = some (.int .i64 ys[k]) := by
        rw [World.cell?_of_block (w := w) (hp.out.2.2.1.block ab hab (by show ¬ w.heap.size ≤ ab; omega))]
        exact hcell k hkx
      have HD : Hid (ys.take (k + 1) = ys.take k ++ [ys[k]]) := List.take_succ_eq_append_getElem hkx
      generalize ys[k] = y at kc HD
      have htl : (ys.take k).length ≤ 200 := by simp; omega
      generalize ys.take k = ts at hp htl HD
      clear hcell HY
      go_wp2_with fail
      refine (two_push y hp.out (by omega)).mono ?_
      rintro e w4 ⟨rfl, hp4⟩
      go_wp2_with fail
      refine (two_push y hp4.out.swap (by omega)).mono ?_
      rintro e w5 ⟨rfl, hp5⟩
      have HP := Lib.hid hp5.out.swap
      clear hp hp4 hp5
      go_wp2
      go_roundw
      case rel => exact ⟨k + 1, by omega, by go_num, by rw [HD.out]; exact HP⟩
      case measure => simp [intOf]; omega
    · have hkm : k = m := by omega
      have hp2 := hp.out
      rw [List.take_of_length_le (by rw [HL2.out]; omega)] at hp2
      have HP : Hid (Turns w.heap.size w wr b pb ys (-5)) := ⟨xs, ys, hp2, List.Perm.refl _, by rw [HL.out]; exact h1⟩
      clear hp hp2 hkm
      obtain ⟨wo, rfl⟩ : ∃ wo : World, wo = wr := ⟨_, rfl⟩
      go_wp2_with fail
      go_loopw [11, 12] (fun nw i wr => ∃ k : Nat, k ≤ turns ∧ i = .int .i64 k ∧ ∃ now : Int, nw = .int .i64 now ∧ Hid (Turns w.heap.size w wr b pb ys now)) (fun _ i _ => turns - (intOf i).toNat)
      case atStart => exact ⟨0, by omega, rfl, -5, rfl, HP⟩
      case round =>
        obtain ⟨t, ht, rfl, now, rfl, htu⟩ := hrel
        clear HP
        obtain ⟨wt, rfl⟩ : ∃ wt : World, wt = wr := ⟨_, rfl⟩
        obtain ⟨scr, l, hp, hperm, hls⟩ := htu.out
        have hlen := Turns.len hperm
        rw [HL2.out] at hlen
        by_cases hlt2 : t < turns
        · have HP1 := Lib.hid hp
          have HQ := Lib.hid (yield_perm scr l now)
          have hyl := (yield_len scr l now).trans hlen
          have HE := Lib.hid hperm
          have hl200 : l.length ≤ 200 := by omega
          have HS := Lib.hid (Nat.le_trans (tail_len scr) hls)
          have hls2 : scr.length ≤ 500 := hls
          clear hp hperm htu hls hlen
          go_wp2_with fail
          refine (two_yield now HP1.out (by omega) (by omega)).mono ?_
          rintro e w4 ⟨rfl, hp4⟩
          generalize yieldVal scr l now = y at HQ
          generalize yieldList scr l now = l' at HQ hyl hp4
          have HYL := Lib.hid hyl
          clear hyl
          go_wp2_with fail
          refine (two_len hp4.out HYL.out).mono ?_
          rintro e w5 ⟨rfl, rfl⟩
          have e0 : ((m : Int) != (m : Int)) = false := by simp
          go_wp2_with fail
          refine (two_yield y hp4.out.swap (by simp) (by rw [HL2.out]; omega)).mono ?_
          rintro e w6 ⟨rfl, hp6⟩
          rw [(yield_plain ys y).1]
          have HT6 : Hid (Turns w.heap.size w w6 b pb ys y) := ⟨_, l', by have := hp6.out.swap; rw [(yield_plain ys y).2] at this; exact this, HQ.out.trans HE.out, HS.out⟩
          have e1 : (y != y) = false := by simp
          clear hp4 hp6 HP1 HQ HE HYL HS hls2 hl200
          go_wp2
          go_roundw
          case rel => exact ⟨t + 1, by omega, by go_num, y, rfl, HT6⟩
          case measure => simp [intOf]; omega
        · have HP1 := Lib.hid hp
          have HE := Lib.hid hperm
          have HLN := Lib.hid hlen
          have hl200 : l.length ≤ 200 := by omega
          have hu0 := hp.2.2.1
          have hsz0 := hu0.size
          clear hp hperm htu hls hlen
          go_wp2_with fail
          refine (two_list (HP1.out.up (Upd.alloc _ wt (.cells #[] 3))) (by omega)).mono ?_
          rintro e w5 ⟨v5, rfl, h5⟩
          have hr5 : Row wt.heap.size w5 (.slice (some ⟨wt.heap.size, 0, none⟩) 0 0) [] := (Row.made wt (Nat.le_refl _)).up h5.out.2
          have hu5 : UpB wt.heap.size wt w5 := UpB.next (Upd.alloc _ wt _) (h5.out.2.mono (fun k _ h => by simp only [World.size_alloc] at h; omega))
          have HU5 := Lib.hid hu5
          have HR5 := Lib.hid hr5
          have hsz5 := hu5.size
          clear hu5 hr5
          obtain ⟨a5, c5, hv5⟩ : ∃ a c, v5 = .slice a l.length c := by obtain ⟨a, c, h, _⟩ := h5.out.1; exact ⟨a, c, h⟩
          have HW5 : Hid (View w5 (.slice a5 m c5) l) := by have := h5.out.1; rw [hv5, HLN.out] at this; exact this
          rw [HLN.out] at hv5
          subst hv5
          clear h5
          have H0 : Hid (([] : List Int).length = 0) := rfl
          have H1 : Hid ([now].length = 1) := rfl
          have H5 : Hid ([(-5 : Int)].length = 1) := rfl
          go_wp2_with (first
            | (at_builtin; refine wpList_app rfl (.tmp 83) (.tmp 85) rfl wt.heap.size _ 0 [] rfl HR5 H0 _ m l rfl HW5 HLN (by omega) hsz5 ?_; intro a6 c6 w6 hr6 hu6; have hsz6 := Nat.le_trans hsz5 hu6.out.size; have HR6 : Hid (Row wt.heap.size (w6.alloc (.cells #[.int .i64 now] 3)) (.slice a6 (0 + m) c6) l) := hr6.out.up (Upd.alloc _ w6 _); clear hr6; rw [Nat.zero_add] at HR6)
            | (at_builtin; refine wpList_app rfl (.tmp 86) (.tmp 88) rfl wt.heap.size _ m l rfl HR6 HLN _ 1 [now] rfl (one_view w6 now) H1 (by omega) (by simp only [World.size_alloc]; omega) ?_; intro a7 c7 w7 hr7 hu7; have HU7 : Hid (UpB wt.heap.size wt w7) := ((HU5.out.next hu6.out).next (Upd.alloc _ w6 _)).next hu7.out; have hsz7 := HU7.out.size; have HR7 : Hid (Row w7.heap.size (w7.alloc (.cells #[] 3)) (.slice (some ⟨w7.heap.size, 0, none⟩) 0 0) []) := Row.made w7 (Nat.le_refl _); have HV7 : Hid (View (w7.alloc (.cells #[] 3)) (.slice a2 m c2) ys) := HY.out _ ((hu0.next (HU7.out.mono (fun k _ h => Nat.le_trans hsz0 h))).next (Upd.alloc _ w7 _)))
            | (at_builtin; refine wpList_app rfl (.tmp 90) (.tmp 91) rfl w7.heap.size _ 0 [] rfl HR7 H0 _ m ys rfl HV7 HL2 (by omega) (by simp only [World.size_alloc]; omega) ?_; intro a8 c8 w8 hr8 hu8; have hsz8 : w7.heap.size ≤ w8.heap.size := Upd.size (UpB.next (B := w7.heap.size) (Upd.alloc _ w7 _) hu8.out); have HR8 : Hid (Row w7.heap.size (w8.alloc (.cells #[.int .i64 (-5)] 3)) (.slice a8 (0 + m) c8) ys) := hr8.out.up (Upd.alloc _ w8 _); clear hr8; rw [Nat.zero_add] at HR8)
            | (at_builtin; refine wpList_app rfl (.tmp 92) (.tmp 93) rfl w7.heap.size _ m ys rfl HR8 HL2 _ 1 [-5] rfl (one_view w8 (-5)) H5 (by omega) (by simp only [World.size_alloc]; omega) ?_; intro a9 c9 w9 hr9 hu9))
          have HU9 : Hid (UpB w7.heap.size w7 w9) := ((UpB.next (Upd.alloc _ w7 _) hu8.out).next (Upd.alloc _ w8 _)).next hu9.out
          have HLF : Hid (∃ lf : List Int, lf.length = m + 1 ∧ Row 0 w9 (.slice a7 (m + 1) c7) lf ∧ lf.Perm ((ys ++ [-5]).drop 0)) := ⟨l ++ [now], by simp [HLN.out], (hr7.out.up HU9.out).low, HE.out⟩
          have HZ : Hid (Row 0 w9 (.slice a9 (m + 1) c9) (ys ++ [-5])) := hr9.out.low
          have HT9 : Hid (Two w.heap.size w w9 b pb scr l [] ys) := HP1.out.up (HU7.out.next (HU9.out.mono (fun k _ h => Nat.le_trans hsz7 h)))
          have HZL : Hid ((ys ++ [-5]).length = m + 1) := by have := HL2.out; unfold Hid; simp [this]
          clear hr9 hu9 HR8 hu8 HV7 HR7 hr7 hu7 HR6 hu6 HW5 HR5 HU5 HU7 HU9 HE HLN hu0 HP1 HY H0 H1 H5
          generalize hzs : ys ++ [-5] = zs at HLF HZ HZL
          clear hzs
          go_loopw [13, 15, 16, 96] (fun lv _ _ i wr => ∃ k : Nat, k ≤ m + 1 ∧ i = .int .i64 k ∧ ∃ p a c, p ≤ m + 1 ∧ lv = .slice a p c ∧ Hid (∃ lf : List Int, lf.length = p ∧ Row 0 wr (.slice a p c) lf ∧ lf.Perm (zs.drop k)) ∧ Hid (Row 0 wr (.slice a9 (m + 1) c9) zs) ∧ Hid (Two w.heap.size w wr b pb scr l [] ys)) (fun _ _ _ i _ => m + 1 - (intOf i).toNat)
          case atStart => exact ⟨0, by omega, rfl, m + 1, a7, c7, Nat.le_refl _, rfl, HLF, HZ, HT9⟩
          case round =>
            obtain ⟨k2, hk2, rfl, p, al, cl, hpm, rfl, hlf, hz, htw⟩ := hrel
            clear HLF HZ HT9
            obtain ⟨wc, rfl⟩ : ∃ wc : World, wc = wr := ⟨_, rfl⟩
            by_cases hlt3 : k2 < m + 1
            · have hkz : k2 < zs.length := by rw [HZL.out]; exact hlt3
              obtain ⟨gz, cz, hvz, _, hcz⟩ := own_cells hz.out (by intro e; simp [e] at hkz)
              rw [HZL.out] at hvz
              injection hvz with e1 _ e3
              subst e1; subst e3
              have kz := hcz k2 hkz
              have hdz : zs.drop k2 = zs[k2] :: zs.drop (k2 + 1) := List.drop_eq_getElem_cons hkz
              generalize zs[k2] = x at kz hdz
              obtain ⟨lf, hlfl, hrow, hperm⟩ := hlf.out
              rw [hdz] at hperm
              have hne : lf ≠ [] := by intro e; subst e; exact absurd hperm.length_eq (by simp)
              obtain ⟨gl, cl', hvl, hgl, hcl⟩ := own_cells hrow hne
              rw [hlfl] at hvl
              injection hvl with e1 _ e3
              subst e1; subst e3
              have HPM := Lib.hid hperm
              have HCL := Lib.hid hcl
              have HRW := Lib.hid hrow
              have HLL := Lib.hid hlfl
              have hp1 : 0 < p := by have := List.length_pos_iff.2 hne; omega
              clear hcz hdz hlf hperm hcl hrow hlfl hne
              go_wp2_with fail
              go_loop [16, 17, 18, 102] (fun av _ _ i => ∃ q : Nat, q ≤ p ∧ i = .int .i64 q ∧ ∃ at_ : Int, -1 ≤ at_ ∧ at_ ≤ 300 ∧ av = .int .i64 at_ ∧ Hid (lastOf lf x q at_)) (fun _ _ _ i => p - (intOf i).toNat)
              case atStart => exact ⟨0, by omega, rfl, -1, by omega, by omega, rfl, .inl ⟨rfl, fun i _ h => by omega⟩⟩
              case round =>
                obtain ⟨q, hq, rfl, at_, hat0, hat1, rfl, hlast⟩ := hrel
                by_cases hlt4 : q < p
                · have hql : q < lf.length := by rw [HLL.out]; exact hlt4
                  have kl := HCL.out q hql
                  have HLS := Lib.hid (last_step lf x q at_ hql hlast.out)
                  generalize lf[q] = y at kl HLS
                  by_cases hyx : y = x
                  · have e1 : (y == x) = true := by simp [hyx]
                    have HLS2 : Hid (lastOf lf x (q + 1) (q : Int)) := by have := HLS.out; rw [if_pos hyx] at this; exact this
                    clear HLS hyx hlast
                    go_wp2
                    go_round
                    case rel => exact ⟨q + 1, by omega, by go_num, q, by omega, by omega, rfl, HLS2⟩
                    case measure => simp [intOf]; omega
                  · have e1 : (y == x) = false := by simp [hyx]
                    have HLS2 : Hid (lastOf lf x (q + 1) at_) := by have := HLS.out; rw [if_neg hyx] at this; exact this
                    clear HLS hyx hlast
                    go_wp2
                    go_round
                    case rel => exact ⟨q + 1, by omega, by go_num, at_, hat0, hat1, rfl, HLS2⟩
                    case measure => simp [intOf]; omega
                · have hqp : q = lf.length := by rw [HLL.out]; omega
                  have hl2 := hlast.out
                  rw [hqp] at hl2
                  obtain ⟨j, rfl, hjl, hjx, hpj⟩ := last_found lf _ x at_ hl2 HPM.out
                  have hjp : j < p := by have := HLL.out; omega
                  have HPJ : Hid ((lf.eraseIdx j).Perm (zs.drop (k2 + 1))) := hpj
                  have HPE : Hid (lf.take j ++ lf.drop (j + 1) = lf.eraseIdx j) := (List.eraseIdx_eq_take_drop_succ lf j).symm
                  have HT1 : Hid ((lf.take j).length = j) := by have := HLL.out; unfold Hid; simp; omega
                  have HT2 : Hid ((lf.drop (j + 1)).length = p - (j + 1)) := by have := HLL.out; unfold Hid; simp; omega
                  have hpc : p ≤ cl := by
                    rcases HRW.out.2 with ⟨_, h⟩ | ⟨_, _, _, h, _, _, h2, _⟩
                    · have := HLL.out; omega
                    · injection h with _ _ h; have := HLL.out; omega
                  have HVA : Hid (∀ w', UpB wc.heap.size wc w' → View w' (.slice (some ⟨gl, 0, none⟩) j cl) (lf.take j)) := by
                    intro w' hu
                    refine ⟨_, cl, by rw [HT1.out], by rw [HT1.out]; omega, fun _ => ⟨gl, 0, rfl, fun i hi => ?_⟩⟩
                    have hil : i < lf.length := by simp at hi; omega
                    rw [World.cell?_of_block (w := wc) (hu.block gl hgl (by show ¬ wc.heap.size ≤ gl; omega)), Nat.zero_add, HCL.out i hil]
                    simp
                  have HVB : Hid (∀ w', UpB wc.heap.size wc w' → View w' (if cl = j + 1 then .slice (some ⟨gl, 0, none⟩) (p - (j + 1)) (cl - (j + 1)) else .slice (some ⟨gl, j + 1, none⟩) (p - (j + 1)) (cl - (j + 1))) (lf.drop (j + 1))) := by
                    intro w' hu
                    by_cases hcj : cl = j + 1
                    · rw [if_pos hcj]
                      refine ⟨_, cl - (j + 1), by rw [HT2.out], by rw [HT2.out]; omega, fun h => absurd (List.length_eq_zero_iff.1 (by rw [HT2.out]; omega)) h⟩
                    · rw [if_neg hcj]
                      refine ⟨_, cl - (j + 1), by rw [HT2.out], by rw [HT2.out]; omega, fun _ => ⟨gl, j + 1, rfl, fun i hi => ?_⟩⟩
                      have hil : j + 1 + i < lf.length := by simp at hi; omega
                      rw [World.cell?_of_block (w := wc) (hu.block gl hgl (by show ¬ wc.heap.size ≤ gl; omega)), HCL.out _ hil]
                      simp
                  have H0 : Hid (([] : List Int).length = 0) := rfl
                  have HRA : Hid (Row wc.heap.size ((wc.alloc (.cells #[] 3)).drew) (.slice (some ⟨wc.heap.size, 0, none⟩) 0 0) []) := (Row.made wc (Nat.le_refl _)).up (Upd.drew _ _)
                  have hu0 : UpB wc.heap.size wc ((wc.alloc (.cells #[] 3)).drew) := UpB.next (Upd.alloc _ wc _) (Upd.drew _ _)
                  have HVA1 := Lib.hid (HVA.out _ hu0)
                  have HU0 := Lib.hid hu0
                  clear hqp hl2 hlast hjl hjx hpj HVA HPM HCL hu0
                  by_cases hcj : cl = j + 1
                  · obtain rfl : p = j + 1 := by omega
                    subst hcj
                    have HVB1 : Hid (∀ w', UpB wc.heap.size wc w' → View w' (.slice (some ⟨gl, 0, none⟩) 0 0) (lf.drop (j + 1))) := fun w' hu => by have := HVB.out w' hu; rw [if_pos rfl, Nat.sub_self] at this; exact this
                    have HT3 : Hid ((lf.drop (j + 1)).length = 0) := by have := HT2.out; rw [Nat.sub_self] at this; exact this
                    clear HVB HT2
                    have b1 : (j : Int) ≤ (j : Int) + 1 := by omega
                    have b2 : IntKind.i64.wrap ((j : Int) + 1) = (j : Int) + 1 := IntWalk.i64_in _ (by omega)
                    have b3 : (0 : Int) ≤ (j : Int) + 1 := by omega
                    have b4 : ((j : Int) + 1).toNat = j + 1 := by omega
                    go_wp2
                    go_region_law (first | (refine step_app rfl (.tmp 114) (.tmp 117) rfl wc.heap.size _ 0 [] (by simp [Act.eval]) HRA H0 _ j (lf.take j) (by simp [Act.eval]) HVA1 HT1 (by omega) (by simp) ?_; intro a8 c8 w8 hr8 hu8; rw [Nat.zero_add] at hr8; have hv8 : Hid (View w8 (.slice (some ⟨gl, 0, none⟩) 0 0) (lf.drop (j + 1))) := HVB1.out w8 (HU0.out.next hu8.out); have hsz8 := Upd.size (UpB.next HU0.out hu8.out)) | (refine step_app rfl (.tmp 118) (.tmp 122) rfl wc.heap.size _ j (lf.take j) (by simp [Act.eval]) hr8 HT1 _ 0 (lf.drop (j + 1)) (by simp [Act.eval]) hv8 HT3 (by omega) hsz8 ?_; intro a9' c9' w9' hr9 hu9))
                    all_goals
                      have HUZ : Hid (UpB wc.heap.size wc w9') := (HU0.out.next hu8.out).next hu9.out
                      have HZ9 := Lib.hid (hz.out.up HUZ.out)
                      have HT9 := Lib.hid (htw.out.up HUZ.out)
                      have HL9 : Hid (∃ lf' : List Int, lf'.length = j ∧ Row 0 w9' (.slice a9' (j) c9') lf' ∧ lf'.Perm (zs.drop (k2 + 1))) := ⟨lf.take j ++ lf.drop (j + 1), by have e1 := HT1.out; have e2 := HT3.out; rw [List.length_append, e1, e2]; rfl, by have := hr9.out.low; simpa using this, by rw [HPE.out]; exact HPJ.out⟩
                      clear hr9 hu9 hr8 hu8 hv8 HUZ
                      go_wp2_with fail
                      go_roundw
                      case rel => exact ⟨k2 + 1, by omega, by go_num, j, a9', c9', by omega, rfl, HL9, HZ9, HT9⟩
                      case measure => simp [intOf]; omega
                  · have HVB1 : Hid (∀ w', UpB wc.heap.size wc w' → View w' (.slice (some ⟨gl, j + 1, none⟩) (p - (j + 1)) (cl - (j + 1))) (lf.drop (j + 1))) := fun w' hu => by have := HVB.out w' hu; rw [if_neg hcj] at this; exact this
                    clear HVB
                    have b1 : (j : Int) ≤ (cl : Int) := by omega
                    have b2 : IntKind.i64.wrap ((j : Int) + 1) = (j : Int) + 1 := IntWalk.i64_in _ (by omega)
                    have b3 : (0 : Int) ≤ (j : Int) + 1 := by omega
                    have b4 : ((j : Int) + 1).toNat = j + 1 := by omega
                    have b5 : (j : Int) + 1 ≤ (p : Int) := by omega
                    have b6 : ¬ cl = j + 1 := hcj
                    go_wp2
                    go_region_law (first | (refine step_app rfl (.tmp 114) (.tmp 117) rfl wc.heap.size _ 0 [] (by simp [Act.eval]) HRA H0 _ j (lf.take j) (by simp [Act.eval]) HVA1 HT1 (by omega) (by simp) ?_; intro a8 c8 w8 hr8 hu8; rw [Nat.zero_add] at hr8; have hv8 : Hid (View w8 (.slice (some ⟨gl, j + 1, none⟩) (p - (j + 1)) (cl - (j + 1))) (lf.drop (j + 1))) := HVB1.out w8 (HU0.out.next hu8.out); have hsz8 := Upd.size (UpB.next HU0.out hu8.out)) | (refine step_app rfl (.tmp 118) (.tmp 122) rfl wc.heap.size _ j (lf.take j) (by simp [Act.eval]) hr8 HT1 _ (p - (j + 1)) (lf.drop (j + 1)) (by simp [Act.eval]) hv8 HT2 (by omega) hsz8 ?_; intro a9' c9' w9' hr9 hu9))
                    all_goals
                      have HUZ : Hid (UpB wc.heap.size wc w9') := (HU0.out.next hu8.out).next hu9.out
                      have HZ9 := Lib.hid (hz.out.up HUZ.out)
                      have HT9 := Lib.hid (htw.out.up HUZ.out)
                      have HL9 : Hid (∃ lf' : List Int, lf'.length = j + (p - (j + 1)) ∧ Row 0 w9' (.slice a9' (j + (p - (j + 1))) c9') lf' ∧ lf'.Perm (zs.drop (k2 + 1))) := ⟨lf.take j ++ lf.drop (j + 1), by have e1 := HT1.out; have e2 := HT2.out; rw [List.length_append, e1, e2], by have := hr9.out.low; exact this, by rw [HPE.out]; exact HPJ.out⟩
                      clear hr9 hu9 hr8 hu8 hv8 HUZ
                      go_wp2_with fail
                      go_roundw
                      case rel => exact ⟨k2 + 1, by omega, by go_num, j + (p - (j + 1)), a9', c9', by omega, rfl, HL9, HZ9, HT9⟩
                      case measure => simp [intOf]; omega
            · obtain ⟨lf, hlfl, _, hperm⟩ := hlf.out
              have hp0 : p = 0 := by
                have h := hperm.length_eq
                rw [List.length_drop, HZL.out] at h
                omega
              subst hp0
              have HT0 : Hid (∃ scr, Two w.heap.size w wc b pb scr l [] (ys.drop 0)) := ⟨scr, htw.out⟩
              clear hlf hlfl hperm hz htw HZL
              go_wp2_with fail
              go_loopw [20, 21, 22, 127] (fun _ _ _ i wr => ∃ k : Nat, k ≤ m ∧ i = .int .i64 k ∧ Hid (∃ scr, Two w.heap.size w wr b pb scr l [] (ys.drop k))) (fun _ _ _ i _ => m - (intOf i).toNat)
              case atStart => exact ⟨0, by omega, rfl, HT0⟩
              case round =>
                obtain ⟨k3, hk3, rfl, hte⟩ := hrel
                obtain ⟨we, rfl⟩ : ∃ we : World, we = wr := ⟨_, rfl⟩
                clear HT0
                obtain ⟨scr3, ht3⟩ := hte.out
                by_cases hlt5 : k3 < m
                · have hkx : k3 < ys.length := by rw [HL2.out]; exact hlt5
                  obtain ⟨ab, ao, rfl, hnc, hab, hcell⟩ := View.at HV2.out HL2.out (by omega)
                  have kc : we.cell? ⟨ab, ao + k3, none⟩ = some (.int .i64 ys[k3]) := by
                    rw [World.cell?_of_block (w := w) (ht3.2.2.1.block ab hab (by show ¬ w.heap.size ≤ ab; omega))]
                    exact hcell k3 hkx
                  have hd : ys.drop k3 = ys[k3] :: ys.drop (k3 + 1) := List.drop_eq_getElem_cons hkx
                  generalize ys[k3] = y at kc hd
                  rw [hd] at ht3
                  have HT3 := Lib.hid ht3
                  have HLD : Hid ((y :: ys.drop (k3 + 1)).length ≤ 1000000) := by have := HL2.out; unfold Hid; simp; omega
                  clear hcell hd hte ht3
                  go_wp2_with fail
                  refine (two_next HT3.out.swap (by simp) HLD.out).mono ?_
                  rintro e w6 ⟨rfl, hp6⟩
                  rw [okB_ne (by simp), (next_plain y _).1]
                  have HT6 : Hid (∃ scr, Two w.heap.size w w6 b pb scr l [] (ys.drop (k3 + 1))) := ⟨scr3, by have := hp6.out.swap; rw [(next_plain y _).2] at this; exact this⟩
                  have e1 : (y != y) = false := by simp
                  clear hp6 HT3 HLD
                  go_wp2
                  go_roundw
                  case rel => exact ⟨k3 + 1, by omega, by go_num, HT6⟩
                  case measure => simp [intOf]; omega
                · have hd : ys.drop k3 = [] := List.drop_eq_nil_of_le (by rw [HL2.out]; omega)
                  rw [hd] at ht3
                  have HT3 := Lib.hid ht3
                  clear hd hte ht3
                  go_wp2_with fail
                  refine (two_len (n := 0) HT3.out.swap rfl).mono ?_
                  rintro e w6 ⟨rfl, rfl⟩
                  go_wp2
                  go_ret
                  exact ⟨rfl, UpB.toBelow HT3.out.2.2.1 (Nat.le_refl _)⟩

end Go.Proofs.Ytoffodgjpeeenaa
