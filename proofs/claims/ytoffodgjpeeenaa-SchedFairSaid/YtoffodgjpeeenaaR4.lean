import Derived.Test.YtoffodgjpeeenaaR3
namespace Go.Proofs.Ytoffodgjpeeenaa
open Go.RowKit

theorem RQ.pushed {B b at_ g cap : Nat} {sv lv : Value} {S l : List Int} {id : Int} {w w1 : World} (h : RQ B w b sv lv S at_ l)
    (ho : w1.ownsRow B 3 1 (.slice (some ⟨g, 0, none⟩) (l.length + 1) cap) (l.length + 1) (l.map (.int .i64) ++ [.int .i64 id])) (hu : Upd (fun k => lv.ownBlock = some k) w w1) (hg : lv.ownBlock = some g ∨ w.heap.size ≤ g) :
    RQ B (w1.setCell ⟨b, 2, none⟩ (.slice (some ⟨g, 0, none⟩) (l.length + 1) cap)) b sv (.slice (some ⟨g, 0, none⟩) (l.length + 1) cap) S at_ (l ++ [id]) ∧
      Upd (QS b lv) w (w1.setCell ⟨b, 2, none⟩ (.slice (some ⟨g, 0, none⟩) (l.length + 1) cap)) ∧ Fresh w lv (.slice (some ⟨g, 0, none⟩) (l.length + 1) cap) := by
  have hgb : g ≠ b := by
    intro e
    rcases hg with h1 | h1
    · exact h.nb (e ▸ h1)
    · have := h.lt; omega
  have hv1 := h.vs.updne hu (fun hne k hk e => by have := h.sx hne k hk; have := (own_lt h.ol k e).1; omega)
  have hus := Upd.setCell (S := fun k => k = b) w1 ⟨b, 2, none⟩ (.slice (some ⟨g, 0, none⟩) (l.length + 1) cap) rfl
  refine ⟨⟨?_, hv1.updne hus (fun hne k hk e => by have := h.sx hne k hk; have := h.bb; omega), h.le, ?_, ?_, h.bb, h.top, h.sx⟩, ?_, ?_⟩
  · have := (hu.block b h.lt h.nb).trans h.hb
    simp only [World.setCell, Array.getElem?_modify, this]; simp
  · have := ownsRow_upd ho hus (fun k hk e => hgb (by simp [Value.ownBlock] at hk; omega))
    simpa using this
  · simpa [Value.ownBlock] using hgb
  · exact Upd.trans (S := QS b lv) (hu.mono (fun k _ h => .inr h)) hus (fun k _ h => .inl h)
  · rcases hg with h1 | h1
    · exact .inl (by rw [h1]; rfl)
    · exact .inr fun k hk => by simp [Value.ownBlock] at hk; omega

set_option maxHeartbeats 800000 in
theorem ryield_even (B b at_ : Nat) (sv lv : Value) (S l : List Int) (now : Int) (w : World) (h : RQ B w b sv lv S at_ l) (hs : S.length ≤ 1000000) (he : numOf (S.drop at_) % 2 = 0) :
    Calls Try.prog 22 #[.pointer (some ⟨b, 0, none⟩), .int .i64 now] w fun e w' => e = .returned (.int .i64 now) ∧ ∃ n, S.drop n = (S.drop at_).tail ∧ RAfter B b sv lv w w' S n l := by
  have HN := Lib.hid (rnumber w h hs)
  have q0 := numOf_nonneg (S.drop at_)
  have q1 := numOf_top (S.drop at_) (fun x hx => h.top x (List.mem_of_mem_drop hx))
  generalize hd : S.drop at_ = scr at HN q0 q1 he ⊢
  generalize hq : numOf scr = q at HN q0 q1 he
  have e1 : (q % 2 == 0) = true := by simp [he]
  clear hq h he hd
  go_enter Try.func22, Try.ntmps22
  go_wp2_with fail
  refine HN.out.mono ?_
  rintro e w1 ⟨rfl, n1, hn1, hq1, hu1⟩
  have HX : Hid (∃ n, S.drop n = scr.tail ∧ RAfter B b sv lv w w1 S n l) := ⟨n1, hn1, _, hq1, hu1.mono (fun k _ h => .inl h), .inl rfl⟩
  clear hq1 hu1 hn1
  go_wp2
  go_ret
  exact ⟨rfl, HX.out⟩

set_option maxHeartbeats 800000 in
theorem ryield_none (B b at_ : Nat) (sv lv : Value) (S : List Int) (now : Int) (w : World) (h : RQ B w b sv lv S at_ []) (hs : S.length ≤ 1000000) (he : ¬ numOf (S.drop at_) % 2 = 0) :
    Calls Try.prog 22 #[.pointer (some ⟨b, 0, none⟩), .int .i64 now] w fun e w' => e = .returned (.int .i64 now) ∧ ∃ n, S.drop n = (S.drop at_).tail ∧ RAfter B b sv lv w w' S n [] := by
  have HN := Lib.hid (rnumber w h hs)
  have q0 := numOf_nonneg (S.drop at_)
  have q1 := numOf_top (S.drop at_) (fun x hx => h.top x (List.mem_of_mem_drop hx))
  obtain ⟨a, c, rfl, _, _⟩ := ownsRow_view h.ol
  generalize hd : S.drop at_ = scr at HN q0 q1 he ⊢
  generalize hq : numOf scr = q at HN q0 q1 he
  have e1 : (q % 2 == 0) = false := by simp [he]
  clear hq h he hd
  simp only [List.length_nil] at HN ⊢
  go_enter Try.func22, Try.ntmps22
  go_wp2_with fail
  refine HN.out.mono ?_
  rintro e w1 ⟨rfl, n1, hn1, hq1, hu1⟩
  have k1 : w1.cell? ⟨b, 2, none⟩ = some (.slice a 0 c) := hq1.c2
  have HX : Hid (∃ n, S.drop n = scr.tail ∧ RAfter B b sv (.slice a 0 c) w w1 S n []) := ⟨n1, hn1, _, hq1, hu1.mono (fun k _ h => .inl h), .inl rfl⟩
  clear hq1 hu1 hn1
  go_wp2
  go_ret
  exact ⟨rfl, HX.out⟩

set_option maxHeartbeats 1600000 in
theorem ryield_out (B b at_ : Nat) (sv lv : Value) (S l : List Int) (now : Int) (w : World) (h : RQ B w b sv lv S at_ l) (hs : S.length ≤ 1000000) (hl : l.length < 1000000) (hB : B ≤ w.heap.size) (he : ¬ numOf (S.drop at_) % 2 = 0) (hne : l ≠ []) :
    Calls Try.prog 22 #[.pointer (some ⟨b, 0, none⟩), .int .i64 now] w fun e w' => e = .returned (.int .i64 ((l ++ [now]).getD (yieldAt (S.drop at_) l) 0)) ∧
      ∃ n, S.drop n = (S.drop at_).tail ∧ RAfter B b sv lv w w' S n ((l ++ [now]).eraseIdx (yieldAt (S.drop at_) l)) := by
  obtain ⟨i0, hi, hz0, hz1, hz2⟩ := info_parts Try.info3
  have HN := Lib.hid (rnumber w h hs)
  have q0 := numOf_nonneg (S.drop at_)
  have q1 := numOf_top (S.drop at_) (fun x hx => h.top x (List.mem_of_mem_drop hx))
  obtain ⟨g, cap, hlv, _, _⟩ := own_cells h.ol hne
  obtain ⟨n, hn⟩ : ∃ n, l.length = n + 1 := ⟨l.length - 1, by have := List.length_pos_iff.2 hne; omega⟩
  have hlen : (l ++ [now]).length = n + 1 + 1 := by simp [hn]
  have hlt := h.lt
  generalize hd : S.drop at_ = scr at HN q0 q1 he ⊢
  have hkk : yieldAt scr l < (l ++ [now]).length := by unfold yieldAt; rw [hlen, hn]; exact Nat.mod_lt _ (by omega)
  have ek : Hid (numOf scr / 2 % ((n : Int) + 1 + 1) = ((yieldAt scr l : Nat) : Int)) := by
    unfold yieldAt
    rw [hn]
    show numOf scr / 2 % ((n : Int) + 1 + 1) = _
    obtain ⟨m, hm⟩ := Int.eq_ofNat_of_zero_le q0
    rw [hm]
    have : ((m : Int) / 2).toNat = m / 2 := by omega
    rw [this]; simp
  have HT := Lib.hid (fun n1 lv1 w1 (hq1 : RQ B w1 b sv lv1 S n1 (l ++ [now])) hB1 => out_q B b n1 sv lv1 S (l ++ [now]) (yieldAt scr l) w1 hq1 (by simp; omega) hB1 hkk)
  have HL := Lib.hid hlen
  have HV := Lib.hid hlv
  have HL1 := Lib.hid hn
  have hn1 : n + 1 < 1000000 := by omega
  generalize hq : numOf scr = q at HN q0 q1 he ek
  have e1 : (q % 2 == 0) = false := by simp [he]
  generalize hy : yieldAt scr l = y at HT ek ⊢
  clear hq h he hne hlv hn hlen hkk hl hy hd
  go_enter Try.func22, Try.ntmps22
  go_wp2_with fail
  refine HN.out.mono ?_
  rintro e w1 ⟨rfl, n1, hd1, hq1, hu1⟩
  have k1 : w1.cell? ⟨b, 2, none⟩ = some (.slice (some ⟨g, 0, none⟩) (n + 1) cap) := by rw [hq1.c2, HV.out, HL1.out]
  have ho1 : w1.ownsRow B 3 1 (.slice (some ⟨g, 0, none⟩) (n + 1) cap) (n + 1) (l.map (.int .i64)) := by have := hq1.ol; rw [HV.out, HL1.out] at this; exact this
  have HO1 := Lib.hid ho1
  have hB1 := Nat.le_trans hB hu1.size
  have hb1 : b < w1.heap.size := hq1.lt
  have HQ1 := Lib.hid hq1
  have HU := Lib.hid hu1
  have HD := Lib.hid hd1
  clear hq1 hu1 hd1 ho1
  go_wp2_with (at_builtin; refine wpList_append_fresh _ rfl _ _ 22 rfl B 3 i0 (.int .i64 0) 1 8 Try.underlying22 hi hz0 hz1 hz2 rfl (by decide) _ _ _ rfl (HO1.out.alloc _) ⟨w1.heap.size, 0, none⟩ 1 1 [.int .i64 now] rfl rfl ?c1 ?c2 ?c3 ?c4 ?c5 ?grow)
  case c1 => intro j u hj; match j, hj with | 0, hj => simp at hj; subst hj; simp [Addr.add]
  case c2 => intro u hu; simp at hu; subst hu; rfl
  case c3 => unfold maxLen; omega
  case c4 => omega
  case c5 => simp only [World.size_alloc]; omega
  case grow =>
    intro v' w2 hown hgrow hfr
    obtain ⟨g2, cap2, rfl⟩ := own_shape hown
    have hu : Hid (Upd (fun k => lv.ownBlock = some k) w1 w2) := (Upd.alloc _ w1 _).trans (Upd.grown hgrow (fun k h => by rw [HV.out]; exact h)) (fun _ _ h => h)
    have hnb : ¬ lv.ownBlock = some b := HQ1.out.nb
    have k2 := (World.cell?_of_block (a := ⟨b, 2, none⟩) (hu.out.block b hb1 hnb)).trans k1
    have f2 := (World.frozen?_of_block (a := ⟨b, 2, none⟩) (hu.out.block b hb1 hnb)).trans (HQ1.out.fr 2)
    have hfr2 : Hid (lv.ownBlock = some g2 ∨ w1.heap.size ≤ g2) := by
      rcases hfr.out with e | e
      · exact .inl (by rw [HV.out]; exact e.symm)
      · exact .inr (by have := e g2 rfl; omega)
    have ho2 := hown
    rw [← HL1.out] at ho2
    have HP := Lib.hid (HQ1.out.pushed ho2 hu.out hfr2.out)
    have hlen2 : l.length + 1 = n + 1 + 1 := by rw [HL1.out]
    rw [hlen2] at HP
    have HL2 := Lib.hid hlen2
    clear hown hgrow hfr hnb ho2 hlen2
    have k3 : (w2.setCell ⟨b, 2, none⟩ (.slice (some ⟨g2, 0, none⟩) (n + 1 + 1) cap2)).cell? ⟨b, 2, none⟩ = some (.slice (some ⟨g2, 0, none⟩) (n + 1 + 1) cap2) := HP.out.1.c2
    go_wp2_with fail
    rw [ek.out]
    have HY := HT.out n1 _ _ HP.out.1 (Nat.le_trans hB1 (Nat.le_trans hu.out.size (Nat.le_of_eq (by simp [World.setCell]))))
    refine HY.mono ?_
    rintro e w3 ⟨rfl, ha⟩
    have HA := Lib.hid ha
    clear ha HY
    go_wp2
    go_ret
    refine ⟨rfl, n1, HD.out, ?_⟩
    exact RAfter.trans (HU.out.mono (fun k _ h => .inl h)) (.inl rfl) (RAfter.trans HP.out.2.1 HP.out.2.2 HA.out)

theorem ryield_q (B b at_ : Nat) (sv lv : Value) (S l : List Int) (now : Int) (w : World) (h : RQ B w b sv lv S at_ l) (hs : S.length ≤ 1000000) (hl : l.length < 1000000) (hB : B ≤ w.heap.size) :
    Calls Try.prog 22 #[.pointer (some ⟨b, 0, none⟩), .int .i64 now] w fun e w' => e = .returned (.int .i64 (yieldVal (S.drop at_) l now)) ∧ ∃ n, S.drop n = (S.drop at_).tail ∧ RAfter B b sv lv w w' S n (yieldList (S.drop at_) l now) := by
  unfold yieldVal yieldList
  by_cases he : numOf (S.drop at_) % 2 = 0
  · rw [if_pos (.inl he), if_pos (.inl he)]
    exact ryield_even B b at_ sv lv S l now w h hs he
  · by_cases hne : l = []
    · subst hne
      rw [if_pos (.inr rfl), if_pos (.inr rfl)]
      exact ryield_none B b at_ sv lv S now w h hs he
    · have : ¬ stays (S.drop at_) l := fun h1 => h1.elim he hne
      rw [if_neg this, if_neg this]
      exact ryield_out B b at_ sv lv S l now w h hs hl hB he hne

end Go.Proofs.Ytoffodgjpeeenaa
