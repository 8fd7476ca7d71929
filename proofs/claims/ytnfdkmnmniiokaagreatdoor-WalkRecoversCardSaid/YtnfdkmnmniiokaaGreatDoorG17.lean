import Derived.Test.YtnfdkmnmniiokaaGreatDoorG0
set_option linter.unusedVariables false
set_option linter.unusedSimpArgs false
namespace Go.Proofs.YtnfdkmnmniiokaaGreatDoor
open Go.RowKit EV IntKind
open Go.Proofs.Tryz (prog)
variable (R : Rec) (k : KV)
namespace f298
noncomputable def pl (i : Nat) : Option Plan := bif Nat.beq i 1 then some (.first 0 1 (.first 1 1 (.first 2 1 (.first 3 1 (.first 4 1 (.first 5 1 (.only 6 .fin))))))) else none
noncomputable def an : An2 := .leaf
noncomputable def F (s0 s1 s2 : EV) (h0 : Hp) (n0 : Nat) : Bool := optW (boxA h0 n0 72 s1) fun v1 h2 n3 => optW (boxA h2 n3 72 s2) fun v4 h5 n6 => optS (fieldAt prog 72 v1 2) fun v7 => optS (loadA prog h5 68 v7) fun v8 => optS (nilChk prog v8) fun v9 => optS (loadA prog h5 122 v9) fun v10 => optS (loadA prog h5 72 v4) fun v11 => optS (indexAt prog 122 v10 (int i64 0)) fun v12 => optW (storeA prog h5 n6 72 v12 v11) fun _ h14 n15 => k (tup []) h14 n15
abbrev Tb := Unit
noncomputable def L (_ : Rec) (_ : KV) (_ : Nat) : Tb := ()
noncomputable def tb (_ : Tb) : List (List Bool × (List EV → Hp → Nat → Bool)) := []
theorem e (l : Tb) (s0 s1 s2 : EV) (h : Hp) (n : Nat) : startE prog O0 (toCall R) pl an (jt (tb l)) 298 [s0, s1, s2] h n k = F k s0 s1 s2 h n := by kernel_rfl
noncomputable def S (R : Rec) (s0 s1 s2 : EV) (h : Hp) (n : Nat) (k : KV) : Bool := F k s0 s1 s2 h n
theorem ok (R : Rec) (hR : CallS prog η0 (toCall R)) (s0 s1 s2 : EV) (h : Hp) (n : Nat) (k : KV) (q : S R s0 s1 s2 h n k = true) : Good 298 [s0, s1, s2] h n k :=
  fun_sound (O := O0) (pl := pl) (an := an) η0_ones mixed hR (by decide +kernel) (by decide +kernel) (fun m => tb (L R k m)) trivial (fun m => trivial) (N := 100000) ((e R k (L R k 100000) s0 s1 s2 h n).trans q)
end f298
namespace f305
noncomputable def pl (i : Nat) : Option Plan := none
noncomputable def an : An2 := .leaf
noncomputable def F (s0 s1 : EV) (h0 : Hp) (n0 : Nat) : Bool := optW (allocA prog h0 n0 72) fun v1 h2 n3 => optK (nilChk prog s0) fun v4 => optK (fieldAt prog 65 v4 0) fun v5 => optK (fieldAt prog 49 v5 0) fun v6 => optK (loadA prog h2 28 v6) fun v7 => optK (indexAt prog 28 v7 s1) fun v8 => optK (loadA prog h2 9 v8) fun v9 => optK (buildA prog 72 [(1, v9)]) fun v10 => optW (storeA prog h2 n3 72 v1 v10) fun _ h12 n13 => resK (resE prog h12 [v1] [.cell 0 72]) h12 n13 k
abbrev Tb := Unit
noncomputable def L (_ : Rec) (_ : KV) (_ : Nat) : Tb := ()
noncomputable def tb (_ : Tb) : List (List Bool × (List EV → Hp → Nat → Bool)) := []
theorem e (l : Tb) (s0 s1 : EV) (h : Hp) (n : Nat) : startE prog O0 (toCall R) pl an (jt (tb l)) 305 [s0, s1] h n k = F k s0 s1 h n := by kernel_rfl
noncomputable def S (R : Rec) (s0 s1 : EV) (h : Hp) (n : Nat) (k : KV) : Bool := F k s0 s1 h n
theorem ok (R : Rec) (hR : CallS prog η0 (toCall R)) (s0 s1 : EV) (h : Hp) (n : Nat) (k : KV) (q : S R s0 s1 h n k = true) : Good 305 [s0, s1] h n k :=
  fun_sound (O := O0) (pl := pl) (an := an) η0_ones mixed hR (by decide +kernel) (by decide +kernel) (fun m => tb (L R k m)) trivial (fun m => trivial) (N := 100000) ((e R k (L R k 100000) s0 s1 h n).trans q)
end f305
namespace f306
noncomputable def pl (i : Nat) : Option Plan := none
noncomputable def an : An2 := .leaf
noncomputable def F (s0 s1 : EV) (h0 : Hp) (n0 : Nat) : Bool := optW (boxA h0 n0 72 s1) fun v1 h2 n3 => optW (allocA prog h2 n3 72) fun v4 h5 n6 => optK (fieldAt prog 72 v1 2) fun v7 => optK (loadA prog h5 68 v7) fun v8 => optK (nilChk prog v8) fun v9 => optK (loadA prog h5 122 v9) fun v10 => optK (indexAt prog 122 v10 (int i64 0)) fun v11 => optK (loadA prog h5 72 v11) fun v12 => optW (storeA prog h5 n6 72 v4 v12) fun _ h14 n15 => resK (resE prog h14 [v4] [.cell 0 72]) h14 n15 k
abbrev Tb := Unit
noncomputable def L (_ : Rec) (_ : KV) (_ : Nat) : Tb := ()
noncomputable def tb (_ : Tb) : List (List Bool × (List EV → Hp → Nat → Bool)) := []
theorem e (l : Tb) (s0 s1 : EV) (h : Hp) (n : Nat) : startE prog O0 (toCall R) pl an (jt (tb l)) 306 [s0, s1] h n k = F k s0 s1 h n := by kernel_rfl
noncomputable def S (R : Rec) (s0 s1 : EV) (h : Hp) (n : Nat) (k : KV) : Bool := F k s0 s1 h n
theorem ok (R : Rec) (hR : CallS prog η0 (toCall R)) (s0 s1 : EV) (h : Hp) (n : Nat) (k : KV) (q : S R s0 s1 h n k = true) : Good 306 [s0, s1] h n k :=
  fun_sound (O := O0) (pl := pl) (an := an) η0_ones mixed hR (by decide +kernel) (by decide +kernel) (fun m => tb (L R k m)) trivial (fun m => trivial) (N := 100000) ((e R k (L R k 100000) s0 s1 h n).trans q)
end f306
end Go.Proofs.YtnfdkmnmniiokaaGreatDoor
