import Derived.Test.YtnfdkmnmniiokaaGreatDoorY4
import Derived.Test.YtnfdkmnmniiokaaGreatDoorProg
set_option linter.unusedVariables false
set_option linter.unusedSimpArgs false
namespace Go.Proofs.YtnfdkmnmniiokaaGreatDoor
open Go.RowKit EV IntKind
open Go.Proofs.Tryz (prog)

def η0 : Nat → Value := fun _ => .bool true
theorem η0_ones : Ones η0 := fun _ => rfl
noncomputable def O0 : Orc prog η0 := Orc.none prog η0
theorem mixed : prog.follows .mixedOrders = true := by decide +kernel
def Good (f : FuncId) (args : List EV) (h : Hp) (n : Nat) (k : KV) : Prop := GoodC prog η0 f args h n k
structure G0 where
  f3 : EV → EV → EV → Hp → Nat → KV → Bool
  f6 : Hp → Nat → KV → Bool
  f7 : EV → EV → Hp → Nat → KV → Bool
  f9 : EV → Hp → Nat → KV → Bool
  f10 : EV → EV → EV → Hp → Nat → KV → Bool
  f11 : EV → Hp → Nat → KV → Bool
  f13 : EV → Hp → Nat → KV → Bool
  f14 : EV → EV → Hp → Nat → KV → Bool
  f15 : EV → EV → EV → EV → Hp → Nat → KV → Bool
  f16 : EV → EV → Hp → Nat → KV → Bool
  f17 : EV → Hp → Nat → KV → Bool
  f18 : EV → EV → Hp → Nat → KV → Bool
  f20 : EV → Hp → Nat → KV → Bool
  f21 : EV → Hp → Nat → KV → Bool
  f22 : EV → Hp → Nat → KV → Bool
  f23 : EV → EV → Hp → Nat → KV → Bool
structure G1 where
  f24 : EV → EV → Hp → Nat → KV → Bool
  f26 : EV → EV → Hp → Nat → KV → Bool
  f27 : EV → EV → EV → Hp → Nat → KV → Bool
  f28 : EV → EV → EV → Hp → Nat → KV → Bool
  f29 : EV → EV → EV → Hp → Nat → KV → Bool
  f30 : EV → Hp → Nat → KV → Bool
  f31 : EV → EV → EV → EV → Hp → Nat → KV → Bool
  f34 : EV → Hp → Nat → KV → Bool
  f35 : EV → Hp → Nat → KV → Bool
  f36 : EV → Hp → Nat → KV → Bool
  f37 : EV → Hp → Nat → KV → Bool
  f38 : EV → EV → Hp → Nat → KV → Bool
  f39 : EV → EV → Hp → Nat → KV → Bool
  f40 : EV → EV → Hp → Nat → KV → Bool
  f41 : EV → EV → Hp → Nat → KV → Bool
  f42 : EV → EV → Hp → Nat → KV → Bool
structure G2 where
  f43 : EV → EV → Hp → Nat → KV → Bool
  f44 : EV → EV → Hp → Nat → KV → Bool
  f45 : EV → EV → Hp → Nat → KV → Bool
  f46 : EV → Hp → Nat → KV → Bool
  f47 : EV → EV → Hp → Nat → KV → Bool
  f48 : EV → Hp → Nat → KV → Bool
  f49 : EV → EV → EV → EV → Hp → Nat → KV → Bool
  f50 : EV → Hp → Nat → KV → Bool
  f52 : EV → Hp → Nat → KV → Bool
  f53 : EV → EV → Hp → Nat → KV → Bool
  f54 : EV → Hp → Nat → KV → Bool
  f55 : EV → EV → EV → Hp → Nat → KV → Bool
  f56 : EV → Hp → Nat → KV → Bool
  f57 : EV → Hp → Nat → KV → Bool
  f58 : EV → Hp → Nat → KV → Bool
  f60 : EV → Hp → Nat → KV → Bool
structure G3 where
  f61 : EV → EV → Hp → Nat → KV → Bool
  f62 : EV → EV → EV → Hp → Nat → KV → Bool
  f63 : EV → EV → EV → Hp → Nat → KV → Bool
  f64 : EV → Hp → Nat → KV → Bool
  f65 : EV → EV → Hp → Nat → KV → Bool
  f66 : EV → EV → Hp → Nat → KV → Bool
  f67 : EV → EV → Hp → Nat → KV → Bool
  f68 : EV → Hp → Nat → KV → Bool
  f69 : EV → EV → EV → EV → Hp → Nat → KV → Bool
  f70 : EV → EV → Hp → Nat → KV → Bool
  f71 : EV → EV → EV → EV → Hp → Nat → KV → Bool
  f72 : EV → Hp → Nat → KV → Bool
  f73 : EV → EV → Hp → Nat → KV → Bool
  f74 : EV → Hp → Nat → KV → Bool
  f75 : EV → EV → Hp → Nat → KV → Bool
  f76 : EV → Hp → Nat → KV → Bool
structure G4 where
  f77 : EV → EV → Hp → Nat → KV → Bool
  f78 : EV → EV → Hp → Nat → KV → Bool
  f79 : EV → EV → Hp → Nat → KV → Bool
  f81 : Hp → Nat → KV → Bool
  f82 : EV → Hp → Nat → KV → Bool
  f84 : EV → EV → EV → Hp → Nat → KV → Bool
  f89 : EV → EV → EV → EV → Hp → Nat → KV → Bool
  f90 : EV → EV → EV → Hp → Nat → KV → Bool
  f91 : EV → EV → Hp → Nat → KV → Bool
  f92 : EV → EV → Hp → Nat → KV → Bool
  f93 : EV → EV → Hp → Nat → KV → Bool
  f94 : EV → EV → EV → Hp → Nat → KV → Bool
  f95 : EV → EV → EV → Hp → Nat → KV → Bool
  f96 : EV → EV → Hp → Nat → KV → Bool
  f97 : EV → EV → Hp → Nat → KV → Bool
  f98 : EV → Hp → Nat → KV → Bool
structure G5 where
  f99 : EV → Hp → Nat → KV → Bool
  f100 : EV → EV → Hp → Nat → KV → Bool
  f101 : EV → EV → EV → EV → Hp → Nat → KV → Bool
  f102 : EV → Hp → Nat → KV → Bool
  f103 : EV → EV → EV → Hp → Nat → KV → Bool
  f104 : EV → EV → Hp → Nat → KV → Bool
  f105 : EV → EV → Hp → Nat → KV → Bool
  f111 : EV → EV → Hp → Nat → KV → Bool
  f112 : EV → Hp → Nat → KV → Bool
  f113 : EV → Hp → Nat → KV → Bool
  f115 : EV → EV → Hp → Nat → KV → Bool
  f116 : EV → Hp → Nat → KV → Bool
  f117 : EV → EV → EV → Hp → Nat → KV → Bool
  f118 : EV → EV → Hp → Nat → KV → Bool
  f123 : EV → EV → EV → Hp → Nat → KV → Bool
  f124 : EV → EV → Hp → Nat → KV → Bool
structure G6 where
  f126 : EV → Hp → Nat → KV → Bool
  f129 : EV → Hp → Nat → KV → Bool
  f132 : EV → EV → EV → Hp → Nat → KV → Bool
  f133 : EV → EV → EV → Hp → Nat → KV → Bool
  f137 : EV → EV → Hp → Nat → KV → Bool
  f138 : EV → Hp → Nat → KV → Bool
  f139 : EV → Hp → Nat → KV → Bool
  f140 : EV → EV → EV → Hp → Nat → KV → Bool
  f150 : EV → Hp → Nat → KV → Bool
  f151 : EV → EV → EV → Hp → Nat → KV → Bool
  f152 : EV → EV → Hp → Nat → KV → Bool
  f155 : EV → EV → Hp → Nat → KV → Bool
  f156 : EV → EV → Hp → Nat → KV → Bool
  f157 : EV → EV → Hp → Nat → KV → Bool
  f158 : EV → EV → EV → Hp → Nat → KV → Bool
  f159 : EV → EV → EV → EV → EV → Hp → Nat → KV → Bool
structure G7 where
  f160 : EV → EV → EV → EV → Hp → Nat → KV → Bool
  f165 : EV → Hp → Nat → KV → Bool
  f166 : EV → EV → Hp → Nat → KV → Bool
  f169 : EV → Hp → Nat → KV → Bool
  f170 : EV → EV → EV → Hp → Nat → KV → Bool
  f171 : EV → EV → Hp → Nat → KV → Bool
  f172 : EV → EV → Hp → Nat → KV → Bool
  f173 : EV → EV → Hp → Nat → KV → Bool
  f180 : EV → Hp → Nat → KV → Bool
  f188 : EV → EV → EV → Hp → Nat → KV → Bool
  f200 : EV → EV → EV → Hp → Nat → KV → Bool
  f202 : EV → EV → Hp → Nat → KV → Bool
  f204 : EV → EV → Hp → Nat → KV → Bool
  f205 : EV → Hp → Nat → KV → Bool
  f206 : EV → EV → Hp → Nat → KV → Bool
  f207 : EV → EV → Hp → Nat → KV → Bool
structure G8 where
  f209 : EV → EV → Hp → Nat → KV → Bool
  f214 : EV → EV → Hp → Nat → KV → Bool
  f228 : EV → Hp → Nat → KV → Bool
  f229 : EV → Hp → Nat → KV → Bool
  f230 : EV → Hp → Nat → KV → Bool
  f231 : EV → Hp → Nat → KV → Bool
  f232 : EV → EV → EV → Hp → Nat → KV → Bool
  f233 : EV → Hp → Nat → KV → Bool
  f244 : EV → Hp → Nat → KV → Bool
  f245 : EV → Hp → Nat → KV → Bool
  f246 : EV → EV → Hp → Nat → KV → Bool
  f254 : EV → EV → Hp → Nat → KV → Bool
  f276 : EV → EV → Hp → Nat → KV → Bool
  f278 : EV → EV → EV → Hp → Nat → KV → Bool
  f279 : EV → EV → Hp → Nat → KV → Bool
  f281 : EV → EV → EV → Hp → Nat → KV → Bool
structure G9 where
  f284 : EV → EV → Hp → Nat → KV → Bool
  f285 : EV → EV → Hp → Nat → KV → Bool
  f292 : EV → EV → Hp → Nat → KV → Bool
  f294 : EV → EV → Hp → Nat → KV → Bool
  f298 : EV → EV → EV → Hp → Nat → KV → Bool
  f305 : EV → EV → Hp → Nat → KV → Bool
  f306 : EV → EV → Hp → Nat → KV → Bool
structure Rec where
  g0 : G0
  g1 : G1
  g2 : G2
  g3 : G3
  g4 : G4
  g5 : G5
  g6 : G6
  g7 : G7
  g8 : G8
  g9 : G9
noncomputable def tree (R : Rec) : BT (List EV → Hp → Nat → KV → Bool) :=
  (.node (.node (.node (.node (.node (.node (.node (.node .nil 3 (ap3 R.g0.f3) .nil) 6 (ap0 R.g0.f6) .nil) 7 (ap2 R.g0.f7) (.node .nil 9 (ap1 R.g0.f9) .nil)) 10 (ap3 R.g0.f10) (.node (.node (.node .nil 11 (ap1 R.g0.f11) .nil) 13 (ap1 R.g0.f13) .nil) 14 (ap2 R.g0.f14) (.node .nil 15 (ap4 R.g0.f15) .nil))) 16 (ap2 R.g0.f16) (.node (.node (.node (.node .nil 17 (ap1 R.g0.f17) .nil) 18 (ap2 R.g0.f18) .nil) 20 (ap1 R.g0.f20) (.node .nil 21 (ap1 R.g0.f21) .nil)) 22 (ap1 R.g0.f22) (.node (.node .nil 23 (ap2 R.g0.f23) .nil) 24 (ap2 R.g1.f24) (.node .nil 26 (ap2 R.g1.f26) .nil)))) 27 (ap3 R.g1.f27) (.node (.node (.node (.node (.node .nil 28 (ap3 R.g1.f28) .nil) 29 (ap3 R.g1.f29) .nil) 30 (ap1 R.g1.f30) (.node .nil 31 (ap4 R.g1.f31) .nil)) 34 (ap1 R.g1.f34) (.node (.node (.node .nil 35 (ap1 R.g1.f35) .nil) 36 (ap1 R.g1.f36) .nil) 37 (ap1 R.g1.f37) (.node .nil 38 (ap2 R.g1.f38) .nil))) 39 (ap2 R.g1.f39) (.node (.node (.node (.node .nil 40 (ap2 R.g1.f40) .nil) 41 (ap2 R.g1.f41) .nil) 42 (ap2 R.g1.f42) (.node .nil 43 (ap2 R.g2.f43) .nil)) 44 (ap2 R.g2.f44) (.node (.node .nil 45 (ap2 R.g2.f45) .nil) 46 (ap1 R.g2.f46) (.node .nil 47 (ap2 R.g2.f47) .nil))))) 48 (ap1 R.g2.f48) (.node (.node (.node (.node (.node (.node .nil 49 (ap4 R.g2.f49) .nil) 50 (ap1 R.g2.f50) .nil) 52 (ap1 R.g2.f52) (.node .nil 53 (ap2 R.g2.f53) .nil)) 54 (ap1 R.g2.f54) (.node (.node (.node .nil 55 (ap3 R.g2.f55) .nil) 56 (ap1 R.g2.f56) .nil) 57 (ap1 R.g2.f57) (.node .nil 58 (ap1 R.g2.f58) .nil))) 60 (ap1 R.g2.f60) (.node (.node (.node (.node .nil 61 (ap2 R.g3.f61) .nil) 62 (ap3 R.g3.f62) .nil) 63 (ap3 R.g3.f63) (.node .nil 64 (ap1 R.g3.f64) .nil)) 65 (ap2 R.g3.f65) (.node (.node .nil 66 (ap2 R.g3.f66) .nil) 67 (ap2 R.g3.f67) (.node .nil 68 (ap1 R.g3.f68) .nil)))) 69 (ap4 R.g3.f69) (.node (.node (.node (.node (.node .nil 70 (ap2 R.g3.f70) .nil) 71 (ap4 R.g3.f71) .nil) 72 (ap1 R.g3.f72) (.node .nil 73 (ap2 R.g3.f73) .nil)) 74 (ap1 R.g3.f74) (.node (.node (.node .nil 75 (ap2 R.g3.f75) .nil) 76 (ap1 R.g3.f76) .nil) 77 (ap2 R.g4.f77) (.node .nil 78 (ap2 R.g4.f78) .nil))) 79 (ap2 R.g4.f79) (.node (.node (.node (.node .nil 81 (ap0 R.g4.f81) .nil) 82 (ap1 R.g4.f82) .nil) 84 (ap3 R.g4.f84) (.node .nil 89 (ap4 R.g4.f89) .nil)) 90 (ap3 R.g4.f90) (.node (.node .nil 91 (ap2 R.g4.f91) .nil) 92 (ap2 R.g4.f92) (.node .nil 93 (ap2 R.g4.f93) .nil)))))) 94 (ap3 R.g4.f94) (.node (.node (.node (.node (.node (.node (.node .nil 95 (ap3 R.g4.f95) .nil) 96 (ap2 R.g4.f96) .nil) 97 (ap2 R.g4.f97) (.node .nil 98 (ap1 R.g4.f98) .nil)) 99 (ap1 R.g5.f99) (.node (.node (.node .nil 100 (ap2 R.g5.f100) .nil) 101 (ap4 R.g5.f101) .nil) 102 (ap1 R.g5.f102) (.node .nil 103 (ap3 R.g5.f103) .nil))) 104 (ap2 R.g5.f104) (.node (.node (.node (.node .nil 105 (ap2 R.g5.f105) .nil) 111 (ap2 R.g5.f111) .nil) 112 (ap1 R.g5.f112) (.node .nil 113 (ap1 R.g5.f113) .nil)) 115 (ap2 R.g5.f115) (.node (.node .nil 116 (ap1 R.g5.f116) .nil) 117 (ap3 R.g5.f117) (.node .nil 118 (ap2 R.g5.f118) .nil)))) 123 (ap3 R.g5.f123) (.node (.node (.node (.node (.node .nil 124 (ap2 R.g5.f124) .nil) 126 (ap1 R.g6.f126) .nil) 129 (ap1 R.g6.f129) (.node .nil 132 (ap3 R.g6.f132) .nil)) 133 (ap3 R.g6.f133) (.node (.node (.node .nil 137 (ap2 R.g6.f137) .nil) 138 (ap1 R.g6.f138) .nil) 139 (ap1 R.g6.f139) (.node .nil 140 (ap3 R.g6.f140) .nil))) 150 (ap1 R.g6.f150) (.node (.node (.node (.node .nil 151 (ap3 R.g6.f151) .nil) 152 (ap2 R.g6.f152) .nil) 155 (ap2 R.g6.f155) (.node .nil 156 (ap2 R.g6.f156) .nil)) 157 (ap2 R.g6.f157) (.node (.node .nil 158 (ap3 R.g6.f158) .nil) 159 (ap5 R.g6.f159) (.node .nil 160 (ap4 R.g7.f160) .nil))))) 165 (ap1 R.g7.f165) (.node (.node (.node (.node (.node (.node .nil 166 (ap2 R.g7.f166) .nil) 169 (ap1 R.g7.f169) .nil) 170 (ap3 R.g7.f170) (.node .nil 171 (ap2 R.g7.f171) .nil)) 172 (ap2 R.g7.f172) (.node (.node (.node .nil 173 (ap2 R.g7.f173) .nil) 180 (ap1 R.g7.f180) .nil) 188 (ap3 R.g7.f188) (.node .nil 200 (ap3 R.g7.f200) .nil))) 202 (ap2 R.g7.f202) (.node (.node (.node (.node .nil 204 (ap2 R.g7.f204) .nil) 205 (ap1 R.g7.f205) .nil) 206 (ap2 R.g7.f206) (.node .nil 207 (ap2 R.g7.f207) .nil)) 209 (ap2 R.g8.f209) (.node (.node .nil 214 (ap2 R.g8.f214) .nil) 228 (ap1 R.g8.f228) (.node .nil 229 (ap1 R.g8.f229) .nil)))) 230 (ap1 R.g8.f230) (.node (.node (.node (.node (.node .nil 231 (ap1 R.g8.f231) .nil) 232 (ap3 R.g8.f232) .nil) 233 (ap1 R.g8.f233) (.node .nil 244 (ap1 R.g8.f244) .nil)) 245 (ap1 R.g8.f245) (.node (.node (.node .nil 246 (ap2 R.g8.f246) .nil) 254 (ap2 R.g8.f254) .nil) 276 (ap2 R.g8.f276) (.node .nil 278 (ap3 R.g8.f278) .nil))) 279 (ap2 R.g8.f279) (.node (.node (.node (.node .nil 281 (ap3 R.g8.f281) .nil) 284 (ap2 R.g9.f284) .nil) 285 (ap2 R.g9.f285) (.node .nil 292 (ap2 R.g9.f292) .nil)) 294 (ap2 R.g9.f294) (.node (.node .nil 298 (ap3 R.g9.f298) .nil) 305 (ap2 R.g9.f305) (.node .nil 306 (ap2 R.g9.f306) .nil)))))))
noncomputable def toCall (R : Rec) : CallK := fun f args h n k => callT (tree R) f args h n k
end Go.Proofs.YtnfdkmnmniiokaaGreatDoor
