/- Code of functions with all types looked up ahead: printed by a program of mine; the kernel compares it with the program's. -/
import Derived.Test.YtcfaajaccbadbaaDoorAhmLg
import Derived.Test.YtcfaajaccbadbaaDoorTab
namespace Go.Proofs.YtcfaajaccbadbaaDoor
open Go Ahm
/-! 4 lodge/lodgelaw15.CheckApart: 6 params, 1 results, 103 -/
def b4_0 : XC := (.seq (.seq (.reg [13, 14, 15, 16, 17, 42] false [⟨(some 41), .always, .q (.mv (.t 17))⟩,
  ⟨(some 42), .always, .q (.bin .lss .no true (.t 41) (.k (.sc (.int .i64 700))))⟩])
  (.cond (.t 42) .skip
  (.exit 0)))
  (.seq (.block 1 (.seq (.reg [13, 14, 15, 16, 17, 18] true [⟨(some 45), .always, .q (.mv (.t 17))⟩,
  ⟨(some 46), .always, .q (.fa 0 (.t 14))⟩,
  ⟨(some 47), .always, .q (.load none (.t 46))⟩,
  ⟨(some 48), .always, .q (.bin .geq .no false (.t 45) (.t 47))⟩,
  ⟨(some 49), .always, .q (.mv (.t 48))⟩,
  ⟨(some 50), (.on 49 true), .q (.mv (.t 17))⟩,
  ⟨(some 51), (.on 49 true), .q (.fa 0 (.t 14))⟩,
  ⟨(some 52), (.on 49 true), .q (.load none (.t 51))⟩,
  ⟨(some 53), (.on 49 true), .q (.fa 1 (.t 14))⟩,
  ⟨(some 54), (.on 49 true), .q (.load (some 2) (.t 53))⟩,
  ⟨(some 55), (.on 49 true), .call (.k (.fn 16 [] [])) [(.t 54)]⟩,
  ⟨(some 56), (.on 49 true), .q (.bin .add .no false (.t 52) (.t 55))⟩,
  ⟨(some 57), (.on 49 true), .q (.bin .lss .no false (.t 50) (.t 56))⟩,
  ⟨(some 58), .always, .q (.pick (.t 49) (.t 57) (.k (.sc (.bool false))))⟩,
  ⟨(some 18), .always, .q (.mv (.t 58))⟩])
  (.seq (.reg [13, 14, 15, 16, 17, 18, 19] true [⟨(some 59), .always, .q (.mv (.t 17))⟩,
  ⟨(some 60), .always, .q (.fa 0 (.t 15))⟩,
  ⟨(some 61), .always, .q (.load none (.t 60))⟩,
  ⟨(some 62), .always, .q (.bin .geq .no false (.t 59) (.t 61))⟩,
  ⟨(some 63), .always, .q (.mv (.t 62))⟩,
  ⟨(some 64), (.on 63 true), .q (.mv (.t 17))⟩,
  ⟨(some 65), (.on 63 true), .q (.fa 0 (.t 15))⟩,
  ⟨(some 66), (.on 63 true), .q (.load none (.t 65))⟩,
  ⟨(some 67), (.on 63 true), .q (.fa 1 (.t 15))⟩,
  ⟨(some 68), (.on 63 true), .q (.load (some 2) (.t 67))⟩,
  ⟨(some 69), (.on 63 true), .call (.k (.fn 16 [] [])) [(.t 68)]⟩,
  ⟨(some 70), (.on 63 true), .q (.bin .add .no false (.t 66) (.t 69))⟩,
  ⟨(some 71), (.on 63 true), .q (.bin .lss .no false (.t 64) (.t 70))⟩,
  ⟨(some 72), .always, .q (.pick (.t 63) (.t 71) (.k (.sc (.bool false))))⟩,
  ⟨(some 19), .always, .q (.mv (.t 72))⟩])
  (.reg [13, 14, 15, 16, 17] false [⟨(some 73), .always, .q (.mv (.t 16))⟩,
  ⟨(some 74), .always, .q (.mv (.t 73))⟩,
  ⟨(some 75), (.on 74 false), .q (.mv (.t 18))⟩,
  ⟨(some 76), (.on 74 false), .q (.mv (.t 75))⟩,
  ⟨(some 77), (.on 76 true), .q (.mv (.t 19))⟩,
  ⟨(some 78), (.on 74 false), .q (.pick (.t 76) (.t 77) (.k (.sc (.bool false))))⟩,
  ⟨(some 79), .always, .q (.pick (.t 74) (.k (.sc (.bool true))) (.t 78))⟩,
  ⟨(some 16), .always, .q (.mv (.t 79))⟩]))))
  (.reg [13, 14, 15, 16, 17] false [⟨(some 43), .always, .q (.mv (.t 17))⟩,
  ⟨(some 44), .always, .q (.bin .add .no true (.t 43) (.k (.sc (.int .i64 1))))⟩,
  ⟨(some 17), .always, .q (.mv (.t 44))⟩])))
def l4_0 : XC := b4_0
theorem xl4_0 {E : Env} {Q : AX → St → Prop} {s : St} : xp E l4_0 s Q = xp E b4_0 s Q := rfl
def x4 : XC := (.seq (.reg [0, 1, 2, 3, 4, 5] false [⟨(some 12), .always, .q (.mv (.k (.sc (.bool false))))⟩])
  (.seq (.reg [0, 1, 2, 3, 4, 5, 13] false [⟨(some 20), .always, .call (.k (.fn 15 [] [])) []⟩,
  ⟨(some 13), .always, .q (.mv (.t 20))⟩])
  (.seq (.seq (.reg [0, 1, 2, 3, 4, 5, 13, 22] false [⟨(some 21), .always, .q (.mv (.t 13))⟩,
  ⟨(some 22), .always, .q (.not (.t 21))⟩])
  (.cond (.t 22) (.seq (.reg [12] false [⟨(some 12), .always, .q (.mv (.k (.sc (.bool false))))⟩])
  .ret)
  .skip))
  (.seq (.reg [1, 3, 5, 13, 14] false [⟨(some 23), .always, .q (.mv (.t 0))⟩,
  ⟨(some 24), .always, .call (.k (.fn 9 [] [])) [(.t 23), (.k (.sc (.int .i64 300)))]⟩,
  ⟨(some 25), .always, .q (.mv (.t 2))⟩,
  ⟨(some 26), .always, .call (.k (.fn 9 [] [])) [(.t 25), (.k (.sc (.int .i64 60)))]⟩,
  ⟨(some 27), .always, .q (.bin .add .no true (.t 26) (.k (.sc (.int .i64 1))))⟩,
  ⟨(some 28), .always, .e (.bsl false 3 [(.sc (.int .i64 0))] 1 1 [(0, 1, (.t 27))])⟩,
  ⟨(some 29), .always, .q (.mv (.t 4))⟩,
  ⟨(some 30), .always, .q (.build [(.sc (.slice none 0 0)), (.sc (.bool false))] [(0, 1, (.t 28)), (1, 1, (.t 29))])⟩,
  ⟨(some 31), .always, .q (.build [(.sc (.int .i64 0)), (.sc (.slice none 0 0)), (.sc (.bool false))] [(0, 1, (.t 24)), (1, 2, (.t 30))])⟩,
  ⟨(some 14), .always, .e (.new 14 49 true [(.sc (.int .i64 0)), (.sc (.slice none 0 0)), (.sc (.bool false))])⟩,
  ⟨none, .always, .e (.sto 3 (.t 14) (.t 31))⟩])
  (.seq (.reg [13, 14, 15] false [⟨(some 32), .always, .q (.mv (.t 1))⟩,
  ⟨(some 33), .always, .call (.k (.fn 9 [] [])) [(.t 32), (.k (.sc (.int .i64 300)))]⟩,
  ⟨(some 34), .always, .q (.mv (.t 3))⟩,
  ⟨(some 35), .always, .call (.k (.fn 9 [] [])) [(.t 34), (.k (.sc (.int .i64 60)))]⟩,
  ⟨(some 36), .always, .q (.bin .add .no true (.t 35) (.k (.sc (.int .i64 1))))⟩,
  ⟨(some 37), .always, .e (.bsl false 3 [(.sc (.int .i64 0))] 1 1 [(0, 1, (.t 36))])⟩,
  ⟨(some 38), .always, .q (.mv (.t 5))⟩,
  ⟨(some 39), .always, .q (.build [(.sc (.slice none 0 0)), (.sc (.bool false))] [(0, 1, (.t 37)), (1, 1, (.t 38))])⟩,
  ⟨(some 40), .always, .q (.build [(.sc (.int .i64 0)), (.sc (.slice none 0 0)), (.sc (.bool false))] [(0, 1, (.t 33)), (1, 2, (.t 39))])⟩,
  ⟨(some 15), .always, .e (.new 15 49 true [(.sc (.int .i64 0)), (.sc (.slice none 0 0)), (.sc (.bool false))])⟩,
  ⟨none, .always, .e (.sto 3 (.t 15) (.t 40))⟩])
  (.seq (.reg [13, 14, 15, 16] false [⟨(some 16), .always, .q (.mv (.k (.sc (.bool false))))⟩])
  (.seq (.seq (.reg [13, 14, 15, 16, 17] false [⟨(some 17), .always, .q (.mv (.k (.sc (.int .i64 0))))⟩])
  (.block 0 (.loop l4_0)))
  (.seq (.reg [12] false [⟨(some 80), .always, .q (.mv (.t 13))⟩,
  ⟨(some 81), .always, .q (.mv (.t 80))⟩,
  ⟨(some 82), (.on 81 true), .q (.load (some 3) (.t 14))⟩,
  ⟨(some 83), (.on 81 true), .q (.load (some 3) (.t 15))⟩,
  ⟨(some 84), (.on 81 true), .call (.k (.fn 17 [] [])) [(.t 82), (.t 83)]⟩,
  ⟨(some 85), (.on 81 true), .q (.mv (.t 16))⟩,
  ⟨(some 86), (.on 81 true), .q (.not (.t 85))⟩,
  ⟨(some 87), (.on 81 true), .q (.bin .eql .bool false (.t 84) (.t 86))⟩,
  ⟨(some 88), .always, .q (.pick (.t 81) (.t 87) (.k (.sc (.bool false))))⟩,
  ⟨(some 89), .always, .q (.mv (.t 88))⟩,
  ⟨(some 90), (.on 89 true), .q (.load (some 3) (.t 15))⟩,
  ⟨(some 91), (.on 89 true), .q (.load (some 3) (.t 14))⟩,
  ⟨(some 92), (.on 89 true), .call (.k (.fn 17 [] [])) [(.t 90), (.t 91)]⟩,
  ⟨(some 93), (.on 89 true), .q (.mv (.t 16))⟩,
  ⟨(some 94), (.on 89 true), .q (.not (.t 93))⟩,
  ⟨(some 95), (.on 89 true), .q (.bin .eql .bool false (.t 92) (.t 94))⟩,
  ⟨(some 96), .always, .q (.pick (.t 89) (.t 95) (.k (.sc (.bool false))))⟩,
  ⟨(some 97), .always, .q (.mv (.t 96))⟩,
  ⟨(some 98), (.on 97 true), .q (.load (some 3) (.t 14))⟩,
  ⟨(some 99), (.on 97 true), .q (.load (some 3) (.t 14))⟩,
  ⟨(some 100), (.on 97 true), .call (.k (.fn 17 [] [])) [(.t 98), (.t 99)]⟩,
  ⟨(some 101), (.on 97 true), .q (.not (.t 100))⟩,
  ⟨(some 102), .always, .q (.pick (.t 97) (.t 101) (.k (.sc (.bool false))))⟩,
  ⟨(some 12), .always, .q (.mv (.t 102))⟩])
  .ret))))))))
/-! 5 lodge/lodgelaw15.CheckTurned: 2 params, 1 results, 100 -/
def b5_0 : XC := (.seq (.seq (.reg [0, 1, 5, 6, 7, 26] false [⟨(some 22), .always, .q (.fa 4 (.t 6))⟩,
  ⟨(some 23), .always, .q (.load none (.t 22))⟩,
  ⟨(some 24), .always, .q (.lenL (.t 23))⟩,
  ⟨(some 25), .always, .q (.mv (.t 0))⟩,
  ⟨(some 26), .always, .q (.bin .lss .no false (.t 24) (.t 25))⟩])
  (.cond (.t 26) .skip
  (.exit 0)))
  (.block 1 (.regD [0, 1, 5, 6, 7] [0, 1, 0, 4, 12, 31, 63, 127] [⟨(some 27), .always, .q (.fa 4 (.t 6))⟩,
  ⟨(some 28), .always, .q (.load none (.t 27))⟩,
  ⟨(some 29), .always, .q (.load (some 6) (.t 7))⟩,
  ⟨(some 30), .always, .call (.k (.fn 19 [] [])) [(.t 29)]⟩,
  ⟨(some 31), .always, .e (.bsl true 60 [(.sc (.int .i64 0)), (.sc (.int .i64 0)), (.sc (.slice none 0 0)), (.sc (.slice none 0 0)), (.sc (.int .i64 0)), (.sc (.int .i64 0))] 6 1 [(0, 6, (.t 30))])⟩,
  ⟨(some 32), .always, .e (.app 60 6 80 .sl (.t 28) (.t 31))⟩,
  ⟨(some 33), .always, .q (.fa 4 (.t 6))⟩,
  ⟨none, .always, .e (.sto 1 (.t 33) (.t 32))⟩])))
def l5_0 : XC := b5_0
theorem xl5_0 {E : Env} {Q : AX → St → Prop} {s : St} : xp E l5_0 s Q = xp E b5_0 s Q := rfl
def x5 : XC := (.seq (.reg [0, 1] false [⟨(some 4), .always, .q (.mv (.k (.sc (.bool false))))⟩])
  (.seq (.reg [0, 1, 5] false [⟨(some 11), .always, .call (.k (.fn 15 [] [])) []⟩,
  ⟨(some 5), .always, .q (.mv (.t 11))⟩])
  (.seq (.seq (.reg [0, 1, 5, 13] false [⟨(some 12), .always, .q (.mv (.t 5))⟩,
  ⟨(some 13), .always, .q (.not (.t 12))⟩])
  (.cond (.t 13) (.seq (.reg [4] false [⟨(some 4), .always, .q (.mv (.k (.sc (.bool false))))⟩])
  .ret)
  .skip))
  (.seq (.reg [0, 1, 5] false [⟨(some 14), .always, .q (.mv (.t 0))⟩,
  ⟨(some 15), .always, .call (.k (.fn 9 [] [])) [(.t 14), (.k (.sc (.int .i64 30)))]⟩,
  ⟨(some 16), .always, .q (.bin .add .no true (.t 15) (.k (.sc (.int .i64 1))))⟩,
  ⟨(some 0), .always, .q (.mv (.t 16))⟩])
  (.seq (.reg [0, 1, 5, 6] false [⟨(some 17), .always, .call (.k (.fn 18 [] [])) [(.k (.sc (.int .i64 1)))]⟩,
  ⟨(some 6), .always, .e (.new 6 57 true [(.sc (.int .i64 0)), (.sc (.slice none 0 0)), (.sc (.slice none 0 0)), (.sc (.slice none 0 0)), (.sc (.slice none 0 0)), (.sc (.int .i64 0)), (.sc (.int .i64 0))])⟩,
  ⟨none, .always, .e (.sto 7 (.t 6) (.t 17))⟩])
  (.seq (.reg [0, 1, 5, 6, 7] false [⟨(some 18), .always, .q (.fa 4 (.t 6))⟩,
  ⟨(some 19), .always, .q (.load none (.t 18))⟩,
  ⟨(some 20), .always, .q (.iaS 6 (.t 19) (.k (.sc (.int .i64 0))))⟩,
  ⟨(some 21), .always, .q (.load (some 6) (.t 20))⟩,
  ⟨(some 7), .always, .e (.new 7 60 true [(.sc (.int .i64 0)), (.sc (.int .i64 0)), (.sc (.slice none 0 0)), (.sc (.slice none 0 0)), (.sc (.int .i64 0)), (.sc (.int .i64 0))])⟩,
  ⟨none, .always, .e (.sto 6 (.t 7) (.t 21))⟩])
  (.seq (.block 0 (.loop l5_0))
  (.seq (.reg [0, 1, 5, 6, 8] false [⟨(some 34), .always, .q (.mv (.t 0))⟩,
  ⟨(some 35), .always, .q (.bin .sub .no true (.t 34) (.k (.sc (.int .i64 1))))⟩,
  ⟨(some 8), .always, .q (.mv (.t 35))⟩])
  (.seq (.reg [0, 1, 5, 6, 8, 9] false [⟨(some 36), .always, .q (.fa 4 (.t 6))⟩,
  ⟨(some 37), .always, .q (.load none (.t 36))⟩,
  ⟨(some 38), .always, .q (.mv (.t 8))⟩,
  ⟨(some 39), .always, .q (.iaS 6 (.t 37) (.t 38))⟩,
  ⟨(some 9), .always, .q (.mv (.t 39))⟩])
  (.seq (.reg [0, 1, 5, 6, 8, 9, 10] false [⟨(some 10), .always, .q (.mv (.k (.sc (.int .i64 102))))⟩])
  (.seq (.seq (.reg [0, 5, 6, 8, 9, 10, 41] false [⟨(some 40), .always, .q (.mv (.t 1))⟩,
  ⟨(some 41), .always, .call (.k (.fn 9 [] [])) [(.t 40), (.k (.sc (.int .i64 9)))]⟩])
  (.block 2 (.seq (.reg [0, 5, 6, 8, 9, 10, 41, 45] false [⟨(some 46), .always, .q (.bin .eql .no true (.t 41) (.k (.sc (.int .i64 0))))⟩,
  ⟨(some 45), .always, .q (.mv (.t 46))⟩])
  (.cond (.t 45) (.seq (.reg [5, 6, 8] false [⟨(some 47), .always, .q (.mv (.t 9))⟩,
  ⟨(some 48), .always, .q (.nilck (.t 47))⟩,
  ⟨(some 49), .always, .q (.fa 0 (.t 48))⟩,
  ⟨none, .always, .e (.sto 1 (.t 49) (.k (.sc (.int .i64 1))))⟩])
  (.reg [5, 6, 8, 10] false [⟨(some 10), .always, .q (.mv (.k (.sc (.int .i64 103))))⟩]))
  (.seq (.reg [0, 5, 6, 8, 9, 10, 41, 50] false [⟨(some 51), .always, .q (.bin .eql .no true (.t 41) (.k (.sc (.int .i64 1))))⟩,
  ⟨(some 50), .always, .q (.mv (.t 51))⟩])
  (.cond (.t 50) (.seq (.reg [5, 6, 8] false [⟨(some 52), .always, .q (.mv (.t 9))⟩,
  ⟨(some 53), .always, .q (.nilck (.t 52))⟩,
  ⟨(some 54), .always, .q (.fa 1 (.t 53))⟩,
  ⟨none, .always, .e (.sto 1 (.t 54) (.k (.sc (.int .i64 2))))⟩])
  (.reg [5, 6, 8, 10] false [⟨(some 10), .always, .q (.mv (.k (.sc (.int .i64 107))))⟩]))
  (.seq (.reg [0, 5, 6, 8, 9, 10, 41, 55] false [⟨(some 56), .always, .q (.bin .eql .no true (.t 41) (.k (.sc (.int .i64 2))))⟩,
  ⟨(some 55), .always, .q (.mv (.t 56))⟩])
  (.cond (.t 55) (.seq (.reg [5, 6, 8] false [⟨(some 57), .always, .q (.mv (.t 9))⟩,
  ⟨(some 58), .always, .e (.bsl false 3 [(.sc (.int .i64 0))] 1 1 [(0, 1, (.k (.sc (.int .i64 0))))])⟩,
  ⟨(some 59), .always, .q (.nilck (.t 57))⟩,
  ⟨(some 60), .always, .q (.fa 2 (.t 59))⟩,
  ⟨none, .always, .e (.sto 1 (.t 60) (.t 58))⟩])
  (.reg [5, 6, 8, 10] false [⟨(some 10), .always, .q (.mv (.k (.sc (.int .i64 101))))⟩]))
  (.seq (.reg [0, 5, 6, 8, 9, 10, 41, 61] false [⟨(some 62), .always, .q (.bin .eql .no true (.t 41) (.k (.sc (.int .i64 3))))⟩,
  ⟨(some 61), .always, .q (.mv (.t 62))⟩])
  (.cond (.t 61) (.seq (.reg [5, 6, 8] false [⟨(some 63), .always, .q (.mv (.t 9))⟩,
  ⟨(some 64), .always, .e (.bsl false 3 [(.sc (.int .i64 0))] 1 2 [(0, 1, (.k (.sc (.int .i64 0)))), (1, 1, (.k (.sc (.int .i64 (-1)))))])⟩,
  ⟨(some 65), .always, .q (.nilck (.t 63))⟩,
  ⟨(some 66), .always, .q (.fa 2 (.t 65))⟩,
  ⟨none, .always, .e (.sto 1 (.t 66) (.t 64))⟩])
  (.reg [5, 6, 8, 10] false [⟨(some 10), .always, .q (.mv (.k (.sc (.int .i64 107))))⟩]))
  (.seq (.reg [0, 5, 6, 8, 9, 10, 41, 67] false [⟨(some 68), .always, .q (.bin .eql .no true (.t 41) (.k (.sc (.int .i64 4))))⟩,
  ⟨(some 67), .always, .q (.mv (.t 68))⟩])
  (.cond (.t 67) (.reg [5, 6, 8, 10] false [⟨(some 69), .always, .q (.mv (.t 9))⟩,
  ⟨(some 70), .always, .q (.nilck (.t 69))⟩,
  ⟨(some 71), .always, .q (.fa 5 (.t 70))⟩,
  ⟨none, .always, .e (.sto 1 (.t 71) (.k (.sc (.int .i64 3))))⟩])
  (.seq (.reg [0, 5, 6, 8, 9, 10, 41, 72] false [⟨(some 73), .always, .q (.bin .eql .no true (.t 41) (.k (.sc (.int .i64 5))))⟩,
  ⟨(some 72), .always, .q (.mv (.t 73))⟩])
  (.cond (.t 72) (.reg [5, 6, 8, 10] false [⟨(some 74), .always, .q (.mv (.t 9))⟩,
  ⟨(some 75), .always, .q (.nilck (.t 74))⟩,
  ⟨(some 76), .always, .q (.fa 4 (.t 75))⟩,
  ⟨none, .always, .e (.sto 1 (.t 76) (.k (.sc (.int .i64 (-1)))))⟩])
  (.seq (.reg [0, 5, 6, 8, 9, 10, 41, 77] false [⟨(some 78), .always, .q (.bin .eql .no true (.t 41) (.k (.sc (.int .i64 6))))⟩,
  ⟨(some 77), .always, .q (.mv (.t 78))⟩])
  (.cond (.t 77) (.seq (.reg [5, 6, 8] false [⟨(some 79), .always, .q (.mv (.t 9))⟩,
  ⟨(some 80), .always, .q (.mv (.t 0))⟩,
  ⟨(some 81), .always, .q (.bin .add .no true (.t 80) (.k (.sc (.int .i64 1))))⟩,
  ⟨(some 82), .always, .e (.bsl false 3 [(.sc (.int .i64 0))] 1 1 [(0, 1, (.t 81))])⟩,
  ⟨(some 83), .always, .q (.build [(.sc (.int .i64 0)), (.sc (.int .i64 0)), (.sc (.slice none 0 0)), (.sc (.slice none 0 0)), (.sc (.int .i64 0)), (.sc (.int .i64 0))] [(0, 1, (.k (.sc (.int .i64 22)))), (3, 1, (.t 82))])⟩,
  ⟨(some 84), .always, .q (.nilck (.t 79))⟩,
  ⟨none, .always, .e (.sto 6 (.t 84) (.t 83))⟩])
  (.reg [5, 6, 8, 10] false [⟨(some 10), .always, .q (.mv (.k (.sc (.int .i64 110))))⟩]))
  (.seq (.reg [5, 6, 8, 9, 10, 85] false [⟨(some 86), .always, .q (.bin .eql .no true (.t 41) (.k (.sc (.int .i64 7))))⟩,
  ⟨(some 85), .always, .q (.mv (.t 86))⟩])
  (.cond (.t 85) (.seq (.reg [5, 6, 8] false [⟨(some 87), .always, .q (.mv (.t 9))⟩,
  ⟨(some 88), .always, .e (.bsl false 3 [(.sc (.int .i64 0))] 1 1 [(0, 1, (.k (.sc (.int .i64 0))))])⟩,
  ⟨(some 89), .always, .q (.build [(.sc (.int .i64 0)), (.sc (.int .i64 0)), (.sc (.slice none 0 0)), (.sc (.slice none 0 0)), (.sc (.int .i64 0)), (.sc (.int .i64 0))] [(0, 1, (.k (.sc (.int .i64 2)))), (1, 1, (.k (.sc (.int .i64 1)))), (3, 1, (.t 88))])⟩,
  ⟨(some 90), .always, .q (.nilck (.t 87))⟩,
  ⟨none, .always, .e (.sto 6 (.t 90) (.t 89))⟩])
  (.reg [5, 6, 8, 10] false [⟨(some 10), .always, .q (.mv (.k (.sc (.int .i64 107))))⟩]))
  (.reg [5, 6, 8, 10] false [⟨(some 42), .always, .q (.mv (.t 9))⟩,
  ⟨(some 43), .always, .q (.build [(.sc (.int .i64 0)), (.sc (.int .i64 0)), (.sc (.slice none 0 0)), (.sc (.slice none 0 0)), (.sc (.int .i64 0)), (.sc (.int .i64 0))] [(0, 1, (.k (.sc (.int .i64 24)))), (1, 1, (.k (.sc (.int .i64 1))))])⟩,
  ⟨(some 44), .always, .q (.nilck (.t 42))⟩,
  ⟨none, .always, .e (.sto 6 (.t 44) (.t 43))⟩])))))))))))))))))))
  (.seq (.reg [4] false [⟨(some 91), .always, .q (.mv (.t 5))⟩,
  ⟨(some 92), .always, .q (.mv (.t 91))⟩,
  ⟨(some 93), (.on 92 true), .q (.load (some 7) (.t 6))⟩,
  ⟨(some 94), (.on 92 true), .call (.k (.fn 20 [] [])) [(.t 93)]⟩,
  ⟨(some 95), (.on 92 true), .q (.mv (.t 10))⟩,
  ⟨(some 96), (.on 92 true), .q (.mv (.t 8))⟩,
  ⟨(some 97), (.on 92 true), .call (.k (.fn 12 [] [])) [(.t 95), (.t 96)]⟩,
  ⟨(some 98), (.on 92 true), .call (.k (.fn 11 [] [])) [(.t 94), (.t 97)]⟩,
  ⟨(some 99), .always, .q (.pick (.t 92) (.t 98) (.k (.sc (.bool false))))⟩,
  ⟨(some 4), .always, .q (.mv (.t 99))⟩])
  .ret))))))))))))
/-! 6 lodge/lodgelaw15.CheckBounds: 1 params, 1 results, 156 -/
def b6_0 : XC := (.seq (.seq (.reg [1, 4, 34] false [⟨(some 30), .always, .q (.mv (.t 4))⟩,
  ⟨(some 31), .always, .q (.fa 1 (.t 1))⟩,
  ⟨(some 32), .always, .q (.load none (.t 31))⟩,
  ⟨(some 33), .always, .q (.lenL (.t 32))⟩,
  ⟨(some 34), .always, .q (.bin .lss .no false (.t 30) (.t 33))⟩])
  (.cond (.t 34) .skip
  (.exit 0)))
  (.seq (.block 1 (.seq (.reg [1, 4, 5] false [⟨(some 37), .always, .q (.fa 1 (.t 1))⟩,
  ⟨(some 38), .always, .q (.load none (.t 37))⟩,
  ⟨(some 39), .always, .q (.mv (.t 4))⟩,
  ⟨(some 40), .always, .q (.iaS 3 (.t 38) (.t 39))⟩,
  ⟨(some 41), .always, .q (.load (some 3) (.t 40))⟩,
  ⟨(some 5), .always, .e (.new 5 49 true [(.sc (.int .i64 0)), (.sc (.slice none 0 0)), (.sc (.bool false))])⟩,
  ⟨none, .always, .e (.sto 3 (.t 5) (.t 41))⟩])
  (.seq (.reg [1, 4, 55] true [⟨(some 42), .always, .q (.fa 0 (.t 5))⟩,
  ⟨(some 43), .always, .q (.load none (.t 42))⟩,
  ⟨(some 44), .always, .q (.bin .lss .no true (.t 43) (.k (.sc (.int .i64 0))))⟩,
  ⟨(some 45), .always, .q (.mv (.t 44))⟩,
  ⟨(some 46), (.on 45 false), .q (.fa 0 (.t 5))⟩,
  ⟨(some 47), (.on 45 false), .q (.load none (.t 46))⟩,
  ⟨(some 48), (.on 45 false), .q (.fa 1 (.t 5))⟩,
  ⟨(some 49), (.on 45 false), .q (.load (some 2) (.t 48))⟩,
  ⟨(some 50), (.on 45 false), .call (.k (.fn 16 [] [])) [(.t 49)]⟩,
  ⟨(some 51), (.on 45 false), .q (.bin .add .no false (.t 47) (.t 50))⟩,
  ⟨(some 52), (.on 45 false), .q (.fa 0 (.t 1))⟩,
  ⟨(some 53), (.on 45 false), .q (.load none (.t 52))⟩,
  ⟨(some 54), (.on 45 false), .q (.bin .gtr .no false (.t 51) (.t 53))⟩,
  ⟨(some 55), .always, .q (.pick (.t 45) (.k (.sc (.bool true))) (.t 54))⟩])
  (.cond (.t 55) (.seq (.reg [2] false [⟨(some 2), .always, .q (.mv (.k (.sc (.bool false))))⟩])
  .ret)
  .skip))))
  (.reg [1, 4] false [⟨(some 35), .always, .q (.mv (.t 4))⟩,
  ⟨(some 36), .always, .q (.bin .add .no true (.t 35) (.k (.sc (.int .i64 1))))⟩,
  ⟨(some 4), .always, .q (.mv (.t 36))⟩])))
def l6_0 : XC := b6_0
theorem xl6_0 {E : Env} {Q : AX → St → Prop} {s : St} : xp E l6_0 s Q = xp E b6_0 s Q := rfl
def b6_1 : XC := (.seq (.seq (.reg [1, 6, 7, 8, 11, 114] false [⟨(some 110), .always, .q (.mv (.t 11))⟩,
  ⟨(some 111), .always, .q (.fa 2 (.t 8))⟩,
  ⟨(some 112), .always, .q (.load none (.t 111))⟩,
  ⟨(some 113), .always, .q (.lenL (.t 112))⟩,
  ⟨(some 114), .always, .q (.bin .lss .no false (.t 110) (.t 113))⟩])
  (.cond (.t 114) .skip
  (.exit 4)))
  (.seq (.block 5 (.seq (.reg [1, 6, 7, 8, 11, 133] true [⟨(some 117), .always, .q (.fa 1 (.t 1))⟩,
  ⟨(some 118), .always, .q (.load none (.t 117))⟩,
  ⟨(some 119), .always, .q (.fa 1 (.t 8))⟩,
  ⟨(some 120), .always, .q (.load none (.t 119))⟩,
  ⟨(some 121), .always, .q (.iaS 3 (.t 118) (.t 120))⟩,
  ⟨(some 122), .always, .q (.load (some 3) (.t 121))⟩,
  ⟨(some 123), .always, .q (.fa 1 (.t 1))⟩,
  ⟨(some 124), .always, .q (.load none (.t 123))⟩,
  ⟨(some 125), .always, .q (.fa 2 (.t 8))⟩,
  ⟨(some 126), .always, .q (.load none (.t 125))⟩,
  ⟨(some 127), .always, .q (.mv (.t 11))⟩,
  ⟨(some 128), .always, .q (.iaS 1 (.t 126) (.t 127))⟩,
  ⟨(some 129), .always, .q (.load none (.t 128))⟩,
  ⟨(some 130), .always, .q (.iaS 3 (.t 124) (.t 129))⟩,
  ⟨(some 131), .always, .q (.load (some 3) (.t 130))⟩,
  ⟨(some 132), .always, .call (.k (.fn 17 [] [])) [(.t 122), (.t 131)]⟩,
  ⟨(some 133), .always, .q (.not (.t 132))⟩])
  (.cond (.t 133) (.seq (.reg [2] false [⟨(some 2), .always, .q (.mv (.k (.sc (.bool false))))⟩])
  .ret)
  .skip)))
  (.reg [1, 6, 7, 8, 11] false [⟨(some 115), .always, .q (.mv (.t 11))⟩,
  ⟨(some 116), .always, .q (.bin .add .no true (.t 115) (.k (.sc (.int .i64 1))))⟩,
  ⟨(some 11), .always, .q (.mv (.t 116))⟩])))
def l6_1 : XC := b6_1
theorem xl6_1 {E : Env} {Q : AX → St → Prop} {s : St} : xp E l6_1 s Q = xp E b6_1 s Q := rfl
def b6_2 : XC := (.seq (.seq (.reg [1, 6, 7, 60] false [⟨(some 56), .always, .q (.mv (.t 7))⟩,
  ⟨(some 57), .always, .q (.fa 4 (.t 1))⟩,
  ⟨(some 58), .always, .q (.load none (.t 57))⟩,
  ⟨(some 59), .always, .q (.lenL (.t 58))⟩,
  ⟨(some 60), .always, .q (.bin .lss .no false (.t 56) (.t 59))⟩])
  (.cond (.t 60) .skip
  (.exit 2)))
  (.seq (.block 3 (.seq (.reg [1, 6, 7, 8] false [⟨(some 63), .always, .q (.fa 4 (.t 1))⟩,
  ⟨(some 64), .always, .q (.load none (.t 63))⟩,
  ⟨(some 65), .always, .q (.mv (.t 7))⟩,
  ⟨(some 66), .always, .q (.iaS 6 (.t 64) (.t 65))⟩,
  ⟨(some 67), .always, .q (.load (some 6) (.t 66))⟩,
  ⟨(some 8), .always, .e (.new 8 60 true [(.sc (.int .i64 0)), (.sc (.int .i64 0)), (.sc (.slice none 0 0)), (.sc (.slice none 0 0)), (.sc (.int .i64 0)), (.sc (.int .i64 0))])⟩,
  ⟨none, .always, .e (.sto 6 (.t 8) (.t 67))⟩])
  (.seq (.reg [1, 6, 7, 8, 9, 10] false [⟨(some 69), .always, .q (.load (some 7) (.t 1))⟩,
  ⟨(some 70), .always, .q (.mv (.t 7))⟩,
  ⟨(some 71), .always, .call (.k (.fn 22 [] [])) [(.t 69), (.t 70)]⟩,
  ⟨(some 68), .always, .q (.mv (.t 71))⟩,
  ⟨(some 72), .always, .q (.ext (.t 68) 0)⟩,
  ⟨(some 73), .always, .q (.ext (.t 68) 1)⟩,
  ⟨(some 9), .always, .q (.mv (.t 72))⟩,
  ⟨(some 10), .always, .q (.mv (.t 73))⟩])
  (.seq (.seq (.reg [1, 6, 7, 8, 9, 83] false [⟨(some 74), .always, .q (.mv (.t 10))⟩,
  ⟨(some 75), .always, .q (.bin .neq .iface true (.t 74) (.k (.sc .nilIface)))⟩,
  ⟨(some 76), .always, .q (.mv (.t 75))⟩,
  ⟨(some 77), (.on 76 false), .q (.mv (.t 9))⟩,
  ⟨(some 78), (.on 76 false), .q (.bin .lss .no true (.t 77) (.k (.sc (.int .i64 1))))⟩,
  ⟨(some 79), .always, .q (.pick (.t 76) (.k (.sc (.bool true))) (.t 78))⟩,
  ⟨(some 80), .always, .q (.mv (.t 79))⟩,
  ⟨(some 81), (.on 80 false), .q (.mv (.t 9))⟩,
  ⟨(some 82), (.on 80 false), .q (.bin .gtr .no true (.t 81) (.k (.sc (.int .i64 1024))))⟩,
  ⟨(some 83), .always, .q (.pick (.t 80) (.k (.sc (.bool true))) (.t 82))⟩])
  (.cond (.t 83) (.seq (.reg [2] false [⟨(some 2), .always, .q (.mv (.k (.sc (.bool false))))⟩])
  .ret)
  .skip))
  (.seq (.reg [1, 6, 7, 8] false [⟨(some 84), .always, .q (.mv (.t 6))⟩,
  ⟨(some 85), .always, .q (.mv (.t 9))⟩,
  ⟨(some 86), .always, .q (.bin .add .no false (.t 84) (.t 85))⟩,
  ⟨(some 6), .always, .q (.mv (.t 86))⟩])
  (.seq (.seq (.reg [1, 6, 7, 8, 94] false [⟨(some 87), .always, .q (.fa 0 (.t 8))⟩,
  ⟨(some 88), .always, .q (.load none (.t 87))⟩,
  ⟨(some 89), .always, .q (.bin .eql .no true (.t 88) (.k (.sc (.int .i64 22))))⟩,
  ⟨(some 90), .always, .q (.mv (.t 89))⟩,
  ⟨(some 91), (.on 90 false), .q (.fa 0 (.t 8))⟩,
  ⟨(some 92), (.on 90 false), .q (.load none (.t 91))⟩,
  ⟨(some 93), (.on 90 false), .q (.bin .eql .no true (.t 92) (.k (.sc (.int .i64 23))))⟩,
  ⟨(some 94), .always, .q (.pick (.t 90) (.k (.sc (.bool true))) (.t 93))⟩])
  (.cond (.t 94) (.seq (.seq (.reg [1, 6, 7, 109] true [⟨(some 95), .always, .q (.fa 3 (.t 8))⟩,
  ⟨(some 96), .always, .q (.load none (.t 95))⟩,
  ⟨(some 97), .always, .q (.iaS 1 (.t 96) (.k (.sc (.int .i64 0))))⟩,
  ⟨(some 98), .always, .q (.load none (.t 97))⟩,
  ⟨(some 99), .always, .q (.bin .lss .no true (.t 98) (.k (.sc (.int .i64 0))))⟩,
  ⟨(some 100), .always, .q (.mv (.t 99))⟩,
  ⟨(some 101), (.on 100 false), .q (.fa 3 (.t 8))⟩,
  ⟨(some 102), (.on 100 false), .q (.load none (.t 101))⟩,
  ⟨(some 103), (.on 100 false), .q (.iaS 1 (.t 102) (.k (.sc (.int .i64 0))))⟩,
  ⟨(some 104), (.on 100 false), .q (.load none (.t 103))⟩,
  ⟨(some 105), (.on 100 false), .q (.fa 4 (.t 1))⟩,
  ⟨(some 106), (.on 100 false), .q (.load none (.t 105))⟩,
  ⟨(some 107), (.on 100 false), .q (.lenL (.t 106))⟩,
  ⟨(some 108), (.on 100 false), .q (.bin .gtr .no false (.t 104) (.t 107))⟩,
  ⟨(some 109), .always, .q (.pick (.t 100) (.k (.sc (.bool true))) (.t 108))⟩])
  (.cond (.t 109) (.seq (.reg [2] false [⟨(some 2), .always, .q (.mv (.k (.sc (.bool false))))⟩])
  .ret)
  .skip))
  (.exit 3))
  .skip))
  (.seq (.reg [1, 6, 7, 8, 11] false [⟨(some 11), .always, .q (.mv (.k (.sc (.int .i64 0))))⟩])
  (.block 4 (.loop l6_1)))))))))
  (.reg [1, 6, 7] false [⟨(some 61), .always, .q (.mv (.t 7))⟩,
  ⟨(some 62), .always, .q (.bin .add .no true (.t 61) (.k (.sc (.int .i64 1))))⟩,
  ⟨(some 7), .always, .q (.mv (.t 62))⟩])))
def l6_2 : XC := b6_2
theorem xl6_2 {E : Env} {Q : AX → St → Prop} {s : St} : xp E l6_2 s Q = xp E b6_2 s Q := rfl
def x6 : XC := (.seq (.reg [1] false [⟨(some 1), .always, .e (.box 1 57 true 7 (.t 0))⟩,
  ⟨(some 2), .always, .q (.mv (.k (.sc (.bool false))))⟩])
  (.seq (.reg [1, 3] false [⟨(some 14), .always, .call (.k (.fn 15 [] [])) []⟩,
  ⟨(some 3), .always, .q (.mv (.t 14))⟩])
  (.seq (.seq (.reg [1, 3, 16] false [⟨(some 15), .always, .q (.mv (.t 3))⟩,
  ⟨(some 16), .always, .q (.not (.t 15))⟩])
  (.cond (.t 16) (.seq (.reg [2] false [⟨(some 2), .always, .q (.mv (.k (.sc (.bool false))))⟩])
  .ret)
  .skip))
  (.seq (.seq (.reg [1, 3, 28] false [⟨(some 17), .always, .q (.load (some 7) (.t 1))⟩,
  ⟨(some 18), .always, .call (.k (.fn 21 [] [])) [(.t 17)]⟩,
  ⟨(some 19), .always, .q (.not (.t 18))⟩,
  ⟨(some 20), .always, .q (.mv (.t 19))⟩,
  ⟨(some 21), (.on 20 false), .q (.mv (.t 3))⟩,
  ⟨(some 22), (.on 20 false), .q (.not (.t 21))⟩,
  ⟨(some 23), .always, .q (.pick (.t 20) (.k (.sc (.bool true))) (.t 22))⟩,
  ⟨(some 24), .always, .q (.mv (.t 23))⟩,
  ⟨(some 25), (.on 24 false), .q (.load (some 7) (.t 1))⟩,
  ⟨(some 26), (.on 24 false), .call (.k (.fn 20 [] [])) [(.t 25)]⟩,
  ⟨(some 27), (.on 24 false), .q (.bin .neq .iface true (.t 26) (.k (.sc .nilIface)))⟩,
  ⟨(some 28), .always, .q (.pick (.t 24) (.k (.sc (.bool true))) (.t 27))⟩])
  (.cond (.t 28) (.seq (.reg [2] false [⟨(some 29), .always, .q (.mv (.t 3))⟩,
  ⟨(some 2), .always, .q (.mv (.t 29))⟩])
  .ret)
  .skip))
  (.seq (.seq (.reg [1, 4] false [⟨(some 4), .always, .q (.mv (.k (.sc (.int .i64 0))))⟩])
  (.block 0 (.loop l6_0)))
  (.seq (.reg [1, 6] false [⟨(some 6), .always, .q (.mv (.k (.sc (.int .i64 0))))⟩])
  (.seq (.seq (.reg [1, 6, 7] false [⟨(some 7), .always, .q (.mv (.k (.sc (.int .i64 0))))⟩])
  (.block 2 (.loop l6_2)))
  (.seq (.reg [1, 6, 12, 13] false [⟨(some 135), .always, .q (.load (some 7) (.t 1))⟩,
  ⟨(some 136), .always, .call (.k (.fn 23 [] [])) [(.t 135)]⟩,
  ⟨(some 134), .always, .q (.mv (.t 136))⟩,
  ⟨(some 137), .always, .q (.ext (.t 134) 0)⟩,
  ⟨(some 138), .always, .q (.ext (.t 134) 1)⟩,
  ⟨(some 12), .always, .q (.mv (.t 137))⟩,
  ⟨(some 13), .always, .q (.mv (.t 138))⟩])
  (.seq (.reg [2] false [⟨(some 139), .always, .q (.mv (.t 13))⟩,
  ⟨(some 140), .always, .q (.bin .eql .iface true (.t 139) (.k (.sc .nilIface)))⟩,
  ⟨(some 141), .always, .q (.mv (.t 140))⟩,
  ⟨(some 142), (.on 141 true), .q (.mv (.t 12))⟩,
  ⟨(some 143), (.on 141 true), .q (.mv (.t 6))⟩,
  ⟨(some 144), (.on 141 true), .q (.bin .eql .no false (.t 142) (.t 143))⟩,
  ⟨(some 145), .always, .q (.pick (.t 141) (.t 144) (.k (.sc (.bool false))))⟩,
  ⟨(some 146), .always, .q (.mv (.t 145))⟩,
  ⟨(some 147), (.on 146 true), .q (.fa 0 (.t 1))⟩,
  ⟨(some 148), (.on 146 true), .q (.load none (.t 147))⟩,
  ⟨(some 149), (.on 146 true), .q (.bin .geq .no true (.t 148) (.k (.sc (.int .i64 0))))⟩,
  ⟨(some 150), .always, .q (.pick (.t 146) (.t 149) (.k (.sc (.bool false))))⟩,
  ⟨(some 151), .always, .q (.mv (.t 150))⟩,
  ⟨(some 152), (.on 151 true), .q (.fa 0 (.t 1))⟩,
  ⟨(some 153), (.on 151 true), .q (.load none (.t 152))⟩,
  ⟨(some 154), (.on 151 true), .q (.bin .leq .no true (.t 153) (.k (.sc (.int .i64 65536))))⟩,
  ⟨(some 155), .always, .q (.pick (.t 151) (.t 154) (.k (.sc (.bool false))))⟩,
  ⟨(some 2), .always, .q (.mv (.t 155))⟩])
  .ret)))))))))
/-! 7 lodge/lodgelaw15.CheckCosts: 4 params, 1 results, 118 -/
def x7 : XC := (.seq (.reg [0, 1, 2, 3] false [⟨(some 8), .always, .q (.mv (.k (.sc (.bool false))))⟩])
  (.seq (.reg [0, 1, 2, 3, 9] false [⟨(some 18), .always, .call (.k (.fn 15 [] [])) []⟩,
  ⟨(some 9), .always, .q (.mv (.t 18))⟩])
  (.seq (.seq (.reg [0, 1, 2, 3, 9, 20] false [⟨(some 19), .always, .q (.mv (.t 9))⟩,
  ⟨(some 20), .always, .q (.not (.t 19))⟩])
  (.cond (.t 20) (.seq (.reg [8] false [⟨(some 8), .always, .q (.mv (.k (.sc (.bool false))))⟩])
  .ret)
  .skip))
  (.seq (.reg [0, 1, 2, 3, 9] false [⟨(some 21), .always, .q (.mv (.t 0))⟩,
  ⟨(some 22), .always, .call (.k (.fn 9 [] [])) [(.t 21), (.k (.sc (.int .i64 60)))]⟩,
  ⟨(some 23), .always, .q (.bin .add .no true (.t 22) (.k (.sc (.int .i64 1))))⟩,
  ⟨(some 0), .always, .q (.mv (.t 23))⟩])
  (.seq (.reg [0, 1, 2, 3, 9] false [⟨(some 24), .always, .q (.mv (.t 1))⟩,
  ⟨(some 25), .always, .call (.k (.fn 9 [] [])) [(.t 24), (.k (.sc (.int .i64 60)))]⟩,
  ⟨(some 26), .always, .q (.bin .add .no true (.t 25) (.k (.sc (.int .i64 1))))⟩,
  ⟨(some 1), .always, .q (.mv (.t 26))⟩])
  (.seq (.reg [0, 1, 2, 3, 9, 10] false [⟨(some 27), .always, .q (.mv (.t 0))⟩,
  ⟨(some 28), .always, .q (.mv (.t 1))⟩,
  ⟨(some 29), .always, .e (.bsl false 3 [(.sc (.int .i64 0))] 1 2 [(0, 1, (.t 27)), (1, 1, (.t 28))])⟩,
  ⟨(some 30), .always, .q (.build [(.sc (.slice none 0 0)), (.sc (.bool false))] [(0, 1, (.t 29))])⟩,
  ⟨(some 10), .always, .e (.new 10 26 true [(.sc (.slice none 0 0)), (.sc (.bool false))])⟩,
  ⟨none, .always, .e (.sto 2 (.t 10) (.t 30))⟩])
  (.seq (.reg [0, 1, 2, 3, 9, 10, 11] false [⟨(some 31), .always, .q (.mv (.t 1))⟩,
  ⟨(some 32), .always, .e (.bsl false 3 [(.sc (.int .i64 0))] 1 2 [(0, 1, (.t 31)), (1, 1, (.k (.sc (.int .i64 1))))])⟩,
  ⟨(some 33), .always, .q (.build [(.sc (.slice none 0 0)), (.sc (.bool false))] [(0, 1, (.t 32))])⟩,
  ⟨(some 11), .always, .e (.new 11 26 true [(.sc (.slice none 0 0)), (.sc (.bool false))])⟩,
  ⟨none, .always, .e (.sto 2 (.t 11) (.t 33))⟩])
  (.seq (.reg [0, 1, 2, 3, 9, 10, 11, 12] false [⟨(some 34), .always, .q (.mv (.t 0))⟩,
  ⟨(some 35), .always, .e (.bsl false 3 [(.sc (.int .i64 0))] 1 2 [(0, 1, (.t 34)), (1, 1, (.k (.sc (.int .i64 1))))])⟩,
  ⟨(some 36), .always, .q (.build [(.sc (.slice none 0 0)), (.sc (.bool false))] [(0, 1, (.t 35)), (1, 1, (.k (.sc (.bool true))))])⟩,
  ⟨(some 12), .always, .e (.new 12 26 true [(.sc (.slice none 0 0)), (.sc (.bool false))])⟩,
  ⟨none, .always, .e (.sto 2 (.t 12) (.t 36))⟩])
  (.seq (.reg [0, 1, 2, 3, 9, 10, 11, 12] false [⟨(some 37), .always, .q (.mv (.t 2))⟩,
  ⟨(some 38), .always, .q (.mv (.t 0))⟩,
  ⟨(some 39), .always, .q (.bin .add .no true (.t 38) (.k (.sc (.int .i64 1))))⟩,
  ⟨(some 40), .always, .call (.k (.fn 9 [] [])) [(.t 37), (.t 39)]⟩,
  ⟨(some 2), .always, .q (.mv (.t 40))⟩])
  (.seq (.reg [1, 2, 3, 9, 10, 11, 12] false [⟨(some 41), .always, .q (.mv (.t 2))⟩,
  ⟨(some 42), .always, .q (.mv (.t 3))⟩,
  ⟨(some 43), .always, .q (.mv (.t 0))⟩,
  ⟨(some 44), .always, .q (.bin .add .no true (.t 43) (.k (.sc (.int .i64 1))))⟩,
  ⟨(some 45), .always, .q (.mv (.t 2))⟩,
  ⟨(some 46), .always, .q (.bin .sub .no false (.t 44) (.t 45))⟩,
  ⟨(some 47), .always, .call (.k (.fn 9 [] [])) [(.t 42), (.t 46)]⟩,
  ⟨(some 48), .always, .q (.bin .add .no false (.t 41) (.t 47))⟩,
  ⟨(some 3), .always, .q (.mv (.t 48))⟩])
  (.seq (.reg [1, 2, 3, 9, 13] false [⟨(some 49), .always, .q (.load (some 2) (.t 10))⟩,
  ⟨(some 50), .always, .q (.build [(.sc (.int .i64 0)), (.sc (.slice none 0 0)), (.sc (.bool false))] [(1, 2, (.t 49))])⟩,
  ⟨(some 51), .always, .q (.load (some 2) (.t 11))⟩,
  ⟨(some 52), .always, .q (.build [(.sc (.int .i64 0)), (.sc (.slice none 0 0)), (.sc (.bool false))] [(0, 1, (.k (.sc (.int .i64 5000)))), (1, 2, (.t 51))])⟩,
  ⟨(some 53), .always, .q (.load (some 2) (.t 12))⟩,
  ⟨(some 54), .always, .q (.build [(.sc (.int .i64 0)), (.sc (.slice none 0 0)), (.sc (.bool false))] [(0, 1, (.k (.sc (.int .i64 8000)))), (1, 2, (.t 53))])⟩,
  ⟨(some 55), .always, .e (.bsl false 49 [(.sc (.int .i64 0)), (.sc (.slice none 0 0)), (.sc (.bool false))] 3 3 [(0, 3, (.t 50)), (3, 3, (.t 52)), (6, 3, (.t 54))])⟩,
  ⟨(some 56), .always, .e (.bsl false 3 [(.sc (.int .i64 0))] 1 2 [(0, 1, (.k (.sc (.int .i64 0)))), (1, 1, (.k (.sc (.int .i64 1))))])⟩,
  ⟨(some 57), .always, .e (.bsl false 3 [(.sc (.int .i64 0))] 1 2 [(0, 1, (.k (.sc (.int .i64 0)))), (1, 1, (.k (.sc (.int .i64 0))))])⟩,
  ⟨(some 58), .always, .q (.mv (.t 2))⟩,
  ⟨(some 59), .always, .q (.mv (.t 3))⟩,
  ⟨(some 60), .always, .q (.build [(.sc (.int .i64 0)), (.sc (.int .i64 0)), (.sc (.slice none 0 0)), (.sc (.slice none 0 0)), (.sc (.int .i64 0)), (.sc (.int .i64 0))] [(0, 1, (.k (.sc (.int .i64 12)))), (1, 1, (.k (.sc (.int .i64 2)))), (2, 1, (.t 56)), (3, 1, (.t 57)), (4, 1, (.t 58)), (5, 1, (.t 59))])⟩,
  ⟨(some 61), .always, .e (.bsl false 60 [(.sc (.int .i64 0)), (.sc (.int .i64 0)), (.sc (.slice none 0 0)), (.sc (.slice none 0 0)), (.sc (.int .i64 0)), (.sc (.int .i64 0))] 6 1 [(0, 6, (.t 60))])⟩,
  ⟨(some 62), .always, .q (.build [(.sc (.int .i64 0)), (.sc (.slice none 0 0)), (.sc (.slice none 0 0)), (.sc (.slice none 0 0)), (.sc (.slice none 0 0)), (.sc (.int .i64 0)), (.sc (.int .i64 0))] [(0, 1, (.k (.sc (.int .i64 20000)))), (1, 1, (.t 55)), (4, 1, (.t 61))])⟩,
  ⟨(some 13), .always, .e (.new 13 57 true [(.sc (.int .i64 0)), (.sc (.slice none 0 0)), (.sc (.slice none 0 0)), (.sc (.slice none 0 0)), (.sc (.slice none 0 0)), (.sc (.int .i64 0)), (.sc (.int .i64 0))])⟩,
  ⟨none, .always, .e (.sto 7 (.t 13) (.t 62))⟩])
  (.seq (.reg [1, 2, 3, 9, 13, 14, 15] false [⟨(some 64), .always, .q (.load (some 7) (.t 13))⟩,
  ⟨(some 65), .always, .call (.k (.fn 22 [] [])) [(.t 64), (.k (.sc (.int .i64 0)))]⟩,
  ⟨(some 63), .always, .q (.mv (.t 65))⟩,
  ⟨(some 66), .always, .q (.ext (.t 63) 0)⟩,
  ⟨(some 67), .always, .q (.ext (.t 63) 1)⟩,
  ⟨(some 14), .always, .q (.mv (.t 66))⟩,
  ⟨(some 15), .always, .q (.mv (.t 67))⟩])
  (.seq (.seq (.reg [1, 2, 3, 9, 13, 14, 15, 73] false [⟨(some 68), .always, .q (.mv (.t 3))⟩,
  ⟨(some 69), .always, .q (.mv (.t 2))⟩,
  ⟨(some 70), .always, .q (.bin .sub .no false (.t 68) (.t 69))⟩,
  ⟨(some 71), .always, .q (.mv (.t 1))⟩,
  ⟨(some 72), .always, .q (.bin .mul .no false (.t 70) (.t 71))⟩,
  ⟨(some 73), .always, .q (.bin .gtr .no true (.t 72) (.k (.sc (.int .i64 1024))))⟩])
  (.cond (.t 73) (.seq (.reg [8] false [⟨(some 74), .always, .q (.mv (.t 9))⟩,
  ⟨(some 75), .always, .q (.mv (.t 74))⟩,
  ⟨(some 76), (.on 75 true), .q (.mv (.t 14))⟩,
  ⟨(some 77), (.on 75 true), .q (.bin .eql .no true (.t 76) (.k (.sc (.int .i64 0))))⟩,
  ⟨(some 78), .always, .q (.pick (.t 75) (.t 77) (.k (.sc (.bool false))))⟩,
  ⟨(some 79), .always, .q (.mv (.t 78))⟩,
  ⟨(some 80), (.on 79 true), .q (.mv (.t 15))⟩,
  ⟨(some 81), (.on 79 true), .call (.k (.fn 24 [] [])) [(.t 80), (.k (.sc (.int .i64 109)))]⟩,
  ⟨(some 82), .always, .q (.pick (.t 79) (.t 81) (.k (.sc (.bool false))))⟩,
  ⟨(some 83), .always, .q (.mv (.t 82))⟩,
  ⟨(some 84), (.on 83 true), .q (.load (some 7) (.t 13))⟩,
  ⟨(some 85), (.on 83 true), .call (.k (.fn 20 [] [])) [(.t 84)]⟩,
  ⟨(some 86), (.on 83 true), .call (.k (.fn 12 [] [])) [(.k (.sc (.int .i64 109))), (.k (.sc (.int .i64 0)))]⟩,
  ⟨(some 87), (.on 83 true), .call (.k (.fn 11 [] [])) [(.t 85), (.t 86)]⟩,
  ⟨(some 88), .always, .q (.pick (.t 83) (.t 87) (.k (.sc (.bool false))))⟩,
  ⟨(some 8), .always, .q (.mv (.t 88))⟩])
  .ret)
  .skip))
  (.seq (.reg [1, 2, 3, 9, 14, 15, 16, 17] false [⟨(some 90), .always, .q (.load (some 7) (.t 13))⟩,
  ⟨(some 91), .always, .call (.k (.fn 23 [] [])) [(.t 90)]⟩,
  ⟨(some 89), .always, .q (.mv (.t 91))⟩,
  ⟨(some 92), .always, .q (.ext (.t 89) 0)⟩,
  ⟨(some 93), .always, .q (.ext (.t 89) 1)⟩,
  ⟨(some 16), .always, .q (.mv (.t 92))⟩,
  ⟨(some 17), .always, .q (.mv (.t 93))⟩])
  (.seq (.reg [8] false [⟨(some 94), .always, .q (.mv (.t 9))⟩,
  ⟨(some 95), .always, .q (.mv (.t 94))⟩,
  ⟨(some 96), (.on 95 true), .q (.mv (.t 15))⟩,
  ⟨(some 97), (.on 95 true), .q (.bin .eql .iface true (.t 96) (.k (.sc .nilIface)))⟩,
  ⟨(some 98), .always, .q (.pick (.t 95) (.t 97) (.k (.sc (.bool false))))⟩,
  ⟨(some 99), .always, .q (.mv (.t 98))⟩,
  ⟨(some 100), (.on 99 true), .q (.mv (.t 17))⟩,
  ⟨(some 101), (.on 99 true), .q (.bin .eql .iface true (.t 100) (.k (.sc .nilIface)))⟩,
  ⟨(some 102), .always, .q (.pick (.t 99) (.t 101) (.k (.sc (.bool false))))⟩,
  ⟨(some 103), .always, .q (.mv (.t 102))⟩,
  ⟨(some 104), (.on 103 true), .q (.mv (.t 14))⟩,
  ⟨(some 105), (.on 103 true), .q (.mv (.t 3))⟩,
  ⟨(some 106), (.on 103 true), .q (.mv (.t 2))⟩,
  ⟨(some 107), (.on 103 true), .q (.bin .sub .no false (.t 105) (.t 106))⟩,
  ⟨(some 108), (.on 103 true), .q (.mv (.t 1))⟩,
  ⟨(some 109), (.on 103 true), .q (.bin .mul .no false (.t 107) (.t 108))⟩,
  ⟨(some 110), (.on 103 true), .q (.mx true [(.k (.sc (.int .i64 1))), (.t 109)])⟩,
  ⟨(some 111), (.on 103 true), .q (.bin .eql .no false (.t 104) (.t 110))⟩,
  ⟨(some 112), .always, .q (.pick (.t 103) (.t 111) (.k (.sc (.bool false))))⟩,
  ⟨(some 113), .always, .q (.mv (.t 112))⟩,
  ⟨(some 114), (.on 113 true), .q (.mv (.t 16))⟩,
  ⟨(some 115), (.on 113 true), .q (.mv (.t 14))⟩,
  ⟨(some 116), (.on 113 true), .q (.bin .eql .no false (.t 114) (.t 115))⟩,
  ⟨(some 117), .always, .q (.pick (.t 113) (.t 116) (.k (.sc (.bool false))))⟩,
  ⟨(some 8), .always, .q (.mv (.t 117))⟩])
  .ret)))))))))))))))
/-! 9 lodge/lodgeworld.Number: 2 params, 1 results, 12 -/
def x9 : XC := (.seq (.reg [0, 1] false [⟨(some 4), .always, .q (.mv (.k (.sc (.int .i64 0))))⟩])
  (.seq (.reg [4] false [⟨(some 5), .always, .q (.mv (.t 0))⟩,
  ⟨(some 6), .always, .q (.mv (.t 1))⟩,
  ⟨(some 7), .always, .q (.bin .rem .no false (.t 5) (.t 6))⟩,
  ⟨(some 8), .always, .q (.mv (.t 1))⟩,
  ⟨(some 9), .always, .q (.bin .add .no false (.t 7) (.t 8))⟩,
  ⟨(some 10), .always, .q (.mv (.t 1))⟩,
  ⟨(some 11), .always, .q (.bin .rem .no false (.t 9) (.t 10))⟩,
  ⟨(some 4), .always, .q (.mv (.t 11))⟩])
  .ret))
/-! 11 lodge/lodgesee.Same: 2 params, 1 results, 9 -/
def x11 : XC := (.seq (.reg [0, 3] false [⟨(some 3), .always, .e (.box 3 43 true 3 (.t 1))⟩,
  ⟨(some 4), .always, .q (.mv (.k (.sc (.bool false))))⟩])
  (.seq (.reg [4] true [⟨(some 5), .always, .q (.mv (.t 0))⟩,
  ⟨(some 6), .always, .call (.k (.fn 29 [] [])) [(.t 5)]⟩,
  ⟨(some 7), .always, .q (.load (some 3) (.t 3))⟩,
  ⟨(some 8), .always, .call (.k (.fn 28 [] [])) [(.t 6), (.t 7)]⟩,
  ⟨(some 4), .always, .q (.mv (.t 8))⟩])
  .ret))
/-! 12 lodge/lodgeref.Placed: 2 params, 1 results, 11 -/
def x12 : XC := (.seq (.reg [0, 1, 4] false [⟨(some 4), .always, .e (.new 4 43 true [(.sc (.int .i64 0)), (.sc (.bool false)), (.sc (.int .i64 0))])⟩])
  (.seq (.seq (.reg [0, 1, 4, 6] false [⟨(some 5), .always, .q (.mv (.t 0))⟩,
  ⟨(some 6), .always, .q (.bin .eql .no true (.t 5) (.k (.sc (.int .i64 0))))⟩])
  (.cond (.t 6) (.seq (.reg [4] false [⟨(some 7), .always, .call (.k (.fn 30 [] [])) []⟩,
  ⟨none, .always, .e (.sto 3 (.t 4) (.t 7))⟩])
  .ret)
  .skip))
  (.seq (.reg [4] false [⟨(some 8), .always, .q (.mv (.t 0))⟩,
  ⟨(some 9), .always, .q (.mv (.t 1))⟩,
  ⟨(some 10), .always, .q (.build [(.sc (.int .i64 0)), (.sc (.bool false)), (.sc (.int .i64 0))] [(0, 1, (.t 8)), (1, 1, (.k (.sc (.bool true)))), (2, 1, (.t 9))])⟩,
  ⟨none, .always, .e (.sto 3 (.t 4) (.t 10))⟩])
  .ret)))
/-! 15 lodge/lodgelaw15.first: 0 params, 1 results, 10 -/
def x15 : XC := (.seq (.reg [] false [⟨(some 0), .always, .q (.mv (.k (.sc (.bool false))))⟩])
  (.seq (.reg [0] false [⟨(some 1), .always, .call (.k (.fn 18 [] [])) [(.k (.sc (.int .i64 1)))]⟩,
  ⟨(some 2), .always, .call (.k (.fn 20 [] [])) [(.t 1)]⟩,
  ⟨(some 3), .always, .q (.bin .eql .iface true (.t 2) (.k (.sc .nilIface)))⟩,
  ⟨(some 4), .always, .q (.mv (.t 3))⟩,
  ⟨(some 5), (.on 4 true), .call (.k (.fn 18 [] [])) [(.k (.sc (.int .i64 0)))]⟩,
  ⟨(some 6), (.on 4 true), .call (.k (.fn 20 [] [])) [(.t 5)]⟩,
  ⟨(some 7), (.on 4 true), .call (.k (.fn 12 [] [])) [(.k (.sc (.int .i64 108))), (.k (.sc (.int .i64 0)))]⟩,
  ⟨(some 8), (.on 4 true), .call (.k (.fn 11 [] [])) [(.t 6), (.t 7)]⟩,
  ⟨(some 9), .always, .q (.pick (.t 4) (.t 8) (.k (.sc (.bool false))))⟩,
  ⟨(some 0), .always, .q (.mv (.t 9))⟩])
  .ret))
/-! 16 lodge/lodgeref3.Size: 1 params, 1 results, 12 -/
def x16 : XC := (.seq (.reg [1] false [⟨(some 1), .always, .e (.box 1 26 true 2 (.t 0))⟩,
  ⟨(some 2), .always, .q (.mv (.k (.sc (.int .i64 0))))⟩])
  (.seq (.reg [1, 3] false [⟨(some 4), .always, .q (.fa 0 (.t 1))⟩,
  ⟨(some 5), .always, .q (.load none (.t 4))⟩,
  ⟨(some 6), .always, .call (.k (.fn 31 [] [])) [(.t 5)]⟩,
  ⟨(some 3), .always, .q (.mv (.t 6))⟩])
  (.seq (.seq (.reg [3, 8] false [⟨(some 7), .always, .q (.fa 1 (.t 1))⟩,
  ⟨(some 8), .always, .q (.load none (.t 7))⟩])
  (.cond (.t 8) (.reg [3] false [⟨(some 9), .always, .q (.mv (.t 3))⟩,
  ⟨(some 10), .always, .q (.bin .mul .no true (.t 9) (.k (.sc (.int .i64 4))))⟩,
  ⟨(some 3), .always, .q (.mv (.t 10))⟩])
  .skip))
  (.seq (.reg [2] false [⟨(some 11), .always, .q (.mv (.t 3))⟩,
  ⟨(some 2), .always, .q (.mv (.t 11))⟩])
  .ret))))
/-! 17 lodge/check.Apart: 2 params, 1 results, 25 -/
def x17 : XC := (.seq (.reg [2, 3] false [⟨(some 2), .always, .e (.box 2 49 true 3 (.t 0))⟩,
  ⟨(some 3), .always, .e (.box 3 49 true 3 (.t 1))⟩,
  ⟨(some 4), .always, .q (.mv (.k (.sc (.bool false))))⟩])
  (.seq (.reg [4] true [⟨(some 5), .always, .q (.fa 0 (.t 2))⟩,
  ⟨(some 6), .always, .q (.load none (.t 5))⟩,
  ⟨(some 7), .always, .q (.fa 1 (.t 2))⟩,
  ⟨(some 8), .always, .q (.load (some 2) (.t 7))⟩,
  ⟨(some 9), .always, .call (.k (.fn 32 [] [])) [(.t 8)]⟩,
  ⟨(some 10), .always, .q (.bin .add .no false (.t 6) (.t 9))⟩,
  ⟨(some 11), .always, .q (.fa 0 (.t 3))⟩,
  ⟨(some 12), .always, .q (.load none (.t 11))⟩,
  ⟨(some 13), .always, .q (.bin .leq .no false (.t 10) (.t 12))⟩,
  ⟨(some 14), .always, .q (.mv (.t 13))⟩,
  ⟨(some 15), (.on 14 false), .q (.fa 0 (.t 3))⟩,
  ⟨(some 16), (.on 14 false), .q (.load none (.t 15))⟩,
  ⟨(some 17), (.on 14 false), .q (.fa 1 (.t 3))⟩,
  ⟨(some 18), (.on 14 false), .q (.load (some 2) (.t 17))⟩,
  ⟨(some 19), (.on 14 false), .call (.k (.fn 32 [] [])) [(.t 18)]⟩,
  ⟨(some 20), (.on 14 false), .q (.bin .add .no false (.t 16) (.t 19))⟩,
  ⟨(some 21), (.on 14 false), .q (.fa 0 (.t 2))⟩,
  ⟨(some 22), (.on 14 false), .q (.load none (.t 21))⟩,
  ⟨(some 23), (.on 14 false), .q (.bin .leq .no false (.t 20) (.t 22))⟩,
  ⟨(some 24), .always, .q (.pick (.t 14) (.k (.sc (.bool true))) (.t 23))⟩,
  ⟨(some 4), .always, .q (.mv (.t 24))⟩])
  .ret))
/-! 18 lodge/lodgelaw15.adds: 1 params, 1 results, 16 -/
def x18 : XC := (.seq (.reg [0, 2] false [⟨(some 2), .always, .e (.new 2 57 true [(.sc (.int .i64 0)), (.sc (.slice none 0 0)), (.sc (.slice none 0 0)), (.sc (.slice none 0 0)), (.sc (.slice none 0 0)), (.sc (.int .i64 0)), (.sc (.int .i64 0))])⟩])
  (.seq (.reg [0, 2, 3] false [⟨(some 4), .always, .e (.bsl false 3 [(.sc (.int .i64 0))] 1 1 [(0, 1, (.k (.sc (.int .i64 2))))])⟩,
  ⟨(some 5), .always, .q (.build [(.sc (.slice none 0 0)), (.sc (.bool false))] [(0, 1, (.t 4))])⟩,
  ⟨(some 3), .always, .e (.new 3 26 true [(.sc (.slice none 0 0)), (.sc (.bool false))])⟩,
  ⟨none, .always, .e (.sto 2 (.t 3) (.t 5))⟩])
  (.seq (.reg [2] false [⟨(some 6), .always, .q (.load (some 2) (.t 3))⟩,
  ⟨(some 7), .always, .q (.build [(.sc (.int .i64 0)), (.sc (.slice none 0 0)), (.sc (.bool false))] [(1, 2, (.t 6))])⟩,
  ⟨(some 8), .always, .q (.load (some 2) (.t 3))⟩,
  ⟨(some 9), .always, .q (.build [(.sc (.int .i64 0)), (.sc (.slice none 0 0)), (.sc (.bool false))] [(0, 1, (.k (.sc (.int .i64 4)))), (1, 2, (.t 8))])⟩,
  ⟨(some 10), .always, .e (.bsl false 49 [(.sc (.int .i64 0)), (.sc (.slice none 0 0)), (.sc (.bool false))] 3 2 [(0, 3, (.t 7)), (3, 3, (.t 9))])⟩,
  ⟨(some 11), .always, .q (.mv (.t 0))⟩,
  ⟨(some 12), .always, .e (.bsl false 3 [(.sc (.int .i64 0))] 1 2 [(0, 1, (.k (.sc (.int .i64 0)))), (1, 1, (.k (.sc (.int .i64 0))))])⟩,
  ⟨(some 13), .always, .q (.build [(.sc (.int .i64 0)), (.sc (.int .i64 0)), (.sc (.slice none 0 0)), (.sc (.slice none 0 0)), (.sc (.int .i64 0)), (.sc (.int .i64 0))] [(0, 1, (.k (.sc (.int .i64 4)))), (1, 1, (.t 11)), (2, 1, (.t 12)), (5, 1, (.k (.sc (.int .i64 2))))])⟩,
  ⟨(some 14), .always, .e (.bsl false 60 [(.sc (.int .i64 0)), (.sc (.int .i64 0)), (.sc (.slice none 0 0)), (.sc (.slice none 0 0)), (.sc (.int .i64 0)), (.sc (.int .i64 0))] 6 1 [(0, 6, (.t 13))])⟩,
  ⟨(some 15), .always, .q (.build [(.sc (.int .i64 0)), (.sc (.slice none 0 0)), (.sc (.slice none 0 0)), (.sc (.slice none 0 0)), (.sc (.slice none 0 0)), (.sc (.int .i64 0)), (.sc (.int .i64 0))] [(0, 1, (.k (.sc (.int .i64 8)))), (1, 1, (.t 10)), (4, 1, (.t 14)), (6, 1, (.k (.sc (.int .i64 1))))])⟩,
  ⟨none, .always, .e (.sto 7 (.t 2) (.t 15))⟩])
  .ret)))
/-! 19 lodge/lodgeref.Instr: 1 params, 1 results, 18 -/
def x19 : XC := (.seq (.reg [1, 2] false [⟨(some 1), .always, .e (.box 1 60 true 6 (.t 0))⟩,
  ⟨(some 2), .always, .e (.new 2 60 true [(.sc (.int .i64 0)), (.sc (.int .i64 0)), (.sc (.slice none 0 0)), (.sc (.slice none 0 0)), (.sc (.int .i64 0)), (.sc (.int .i64 0))])⟩])
  (.seq (.regD [2] [0, 1, 0, 4, 0, 16, 48, 0, 128, 496, 0, 1024, 0, 4096, 16383, 32767] [⟨(some 3), .always, .q (.fa 0 (.t 1))⟩,
  ⟨(some 4), .always, .q (.load none (.t 3))⟩,
  ⟨(some 5), .always, .q (.fa 1 (.t 1))⟩,
  ⟨(some 6), .always, .q (.load none (.t 5))⟩,
  ⟨(some 7), .always, .q (.fa 2 (.t 1))⟩,
  ⟨(some 8), .always, .q (.load none (.t 7))⟩,
  ⟨(some 9), .always, .call (.k (.fn 33 [] [])) [(.t 8)]⟩,
  ⟨(some 10), .always, .q (.fa 3 (.t 1))⟩,
  ⟨(some 11), .always, .q (.load none (.t 10))⟩,
  ⟨(some 12), .always, .call (.k (.fn 33 [] [])) [(.t 11)]⟩,
  ⟨(some 13), .always, .q (.fa 4 (.t 1))⟩,
  ⟨(some 14), .always, .q (.load none (.t 13))⟩,
  ⟨(some 15), .always, .q (.fa 5 (.t 1))⟩,
  ⟨(some 16), .always, .q (.load none (.t 15))⟩,
  ⟨(some 17), .always, .q (.build [(.sc (.int .i64 0)), (.sc (.int .i64 0)), (.sc (.slice none 0 0)), (.sc (.slice none 0 0)), (.sc (.int .i64 0)), (.sc (.int .i64 0))] [(0, 1, (.t 4)), (1, 1, (.t 6)), (2, 1, (.t 9)), (3, 1, (.t 12)), (4, 1, (.t 14)), (5, 1, (.t 16))])⟩,
  ⟨none, .always, .e (.sto 6 (.t 2) (.t 17))⟩])
  .ret))
/-! 20 lodge/check.Valid: 1 params, 1 results, 26 -/
def b20_0 : XC := (.seq (.reg [1, 13, 14, 15] false [⟨(some 15), .always, .q (.bin .lss .no false (.t 14) (.t 13))⟩])
  (.seq (.cond (.t 15) .skip
  (.exit 0))
  (.seq (.block 1 (.seq (.reg [1, 4, 13, 14] false [⟨(some 16), .always, .q (.mv (.t 14))⟩,
  ⟨(some 4), .always, .q (.mv (.t 16))⟩])
  (.seq (.reg [1, 4, 5, 13, 14] false [⟨(some 17), .always, .q (.load (some 7) (.t 1))⟩,
  ⟨(some 18), .always, .q (.mv (.t 4))⟩,
  ⟨(some 19), .always, .call (.k (.fn 35 [] [])) [(.t 17), (.t 18)]⟩,
  ⟨(some 5), .always, .q (.mv (.t 19))⟩])
  (.seq (.reg [1, 4, 5, 13, 14, 21] false [⟨(some 20), .always, .q (.mv (.t 5))⟩,
  ⟨(some 21), .always, .q (.bin .neq .iface true (.t 20) (.k (.sc .nilIface)))⟩])
  (.cond (.t 21) (.seq (.reg [2] false [⟨(some 22), .always, .q (.mv (.t 4))⟩,
  ⟨(some 23), .always, .q (.mv (.t 5))⟩,
  ⟨(some 24), .always, .call (.k (.fn 36 [] [])) [(.t 22), (.t 23)]⟩,
  ⟨(some 2), .always, .q (.mv (.t 24))⟩])
  .ret)
  .skip)))))
  (.reg [1, 13, 14] false [⟨(some 25), .always, .q (.bin .add .no true (.t 14) (.k (.sc (.int .i64 1))))⟩,
  ⟨(some 14), .always, .q (.mv (.t 25))⟩]))))
def l20_0 : XC := b20_0
theorem xl20_0 {E : Env} {Q : AX → St → Prop} {s : St} : xp E l20_0 s Q = xp E b20_0 s Q := rfl
def x20 : XC := (.seq (.reg [1] false [⟨(some 1), .always, .e (.box 1 57 true 7 (.t 0))⟩,
  ⟨(some 2), .always, .q (.mv (.k (.sc .nilIface)))⟩])
  (.seq (.seq (.reg [1, 3] false [⟨(some 6), .always, .q (.load (some 7) (.t 1))⟩,
  ⟨(some 7), .always, .call (.k (.fn 34 [] [])) [(.t 6)]⟩,
  ⟨(some 3), .always, .q (.mv (.t 7))⟩])
  (.seq (.reg [1, 3, 9] false [⟨(some 8), .always, .q (.mv (.t 3))⟩,
  ⟨(some 9), .always, .q (.bin .neq .iface true (.t 8) (.k (.sc .nilIface)))⟩])
  (.cond (.t 9) (.seq (.reg [2] false [⟨(some 10), .always, .q (.mv (.t 3))⟩,
  ⟨(some 2), .always, .q (.mv (.t 10))⟩])
  .ret)
  .skip)))
  (.seq (.seq (.reg [1, 13, 14] false [⟨(some 11), .always, .q (.fa 4 (.t 1))⟩,
  ⟨(some 12), .always, .q (.load none (.t 11))⟩,
  ⟨(some 13), .always, .q (.lenL (.t 12))⟩,
  ⟨(some 14), .always, .q (.mv (.k (.sc (.int .i64 0))))⟩])
  (.block 0 (.loop l20_0)))
  (.seq (.reg [2] false [⟨(some 2), .always, .q (.mv (.k (.sc .nilIface)))⟩])
  .ret))))
/-! 21 lodge/lodgeworld.Plan: 1 params, 1 results, 82 -/
def b21_0 : XC := (.seq (.seq (.reg [1, 3, 32] false [⟨(some 28), .always, .q (.mv (.t 3))⟩,
  ⟨(some 29), .always, .q (.fa 1 (.t 1))⟩,
  ⟨(some 30), .always, .q (.load none (.t 29))⟩,
  ⟨(some 31), .always, .q (.lenL (.t 30))⟩,
  ⟨(some 32), .always, .q (.bin .lss .no false (.t 28) (.t 31))⟩])
  (.cond (.t 32) .skip
  (.exit 0)))
  (.seq (.block 1 (.seq (.reg [1, 3, 42] false [⟨(some 35), .always, .q (.fa 1 (.t 1))⟩,
  ⟨(some 36), .always, .q (.load none (.t 35))⟩,
  ⟨(some 37), .always, .q (.mv (.t 3))⟩,
  ⟨(some 38), .always, .q (.iaS 3 (.t 36) (.t 37))⟩,
  ⟨(some 39), .always, .q (.fa 1 (.t 38))⟩,
  ⟨(some 40), .always, .q (.load (some 2) (.t 39))⟩,
  ⟨(some 41), .always, .call (.k (.fn 38 [] [])) [(.t 40)]⟩,
  ⟨(some 42), .always, .q (.not (.t 41))⟩])
  (.cond (.t 42) (.seq (.reg [2] false [⟨(some 2), .always, .q (.mv (.k (.sc (.bool false))))⟩])
  .ret)
  .skip)))
  (.reg [1, 3] false [⟨(some 33), .always, .q (.mv (.t 3))⟩,
  ⟨(some 34), .always, .q (.bin .add .no true (.t 33) (.k (.sc (.int .i64 1))))⟩,
  ⟨(some 3), .always, .q (.mv (.t 34))⟩])))
def l21_0 : XC := b21_0
theorem xl21_0 {E : Env} {Q : AX → St → Prop} {s : St} : xp E l21_0 s Q = xp E b21_0 s Q := rfl
def b21_1 : XC := (.seq (.seq (.reg [1, 4, 47] false [⟨(some 43), .always, .q (.mv (.t 4))⟩,
  ⟨(some 44), .always, .q (.fa 3 (.t 1))⟩,
  ⟨(some 45), .always, .q (.load none (.t 44))⟩,
  ⟨(some 46), .always, .q (.lenL (.t 45))⟩,
  ⟨(some 47), .always, .q (.bin .lss .no false (.t 43) (.t 46))⟩])
  (.cond (.t 47) .skip
  (.exit 2)))
  (.seq (.block 3 (.seq (.reg [1, 4, 56] false [⟨(some 50), .always, .q (.fa 3 (.t 1))⟩,
  ⟨(some 51), .always, .q (.load none (.t 50))⟩,
  ⟨(some 52), .always, .q (.mv (.t 4))⟩,
  ⟨(some 53), .always, .q (.iaS 2 (.t 51) (.t 52))⟩,
  ⟨(some 54), .always, .q (.load (some 2) (.t 53))⟩,
  ⟨(some 55), .always, .call (.k (.fn 38 [] [])) [(.t 54)]⟩,
  ⟨(some 56), .always, .q (.not (.t 55))⟩])
  (.cond (.t 56) (.seq (.reg [2] false [⟨(some 2), .always, .q (.mv (.k (.sc (.bool false))))⟩])
  .ret)
  .skip)))
  (.reg [1, 4] false [⟨(some 48), .always, .q (.mv (.t 4))⟩,
  ⟨(some 49), .always, .q (.bin .add .no true (.t 48) (.k (.sc (.int .i64 1))))⟩,
  ⟨(some 4), .always, .q (.mv (.t 49))⟩])))
def l21_1 : XC := b21_1
theorem xl21_1 {E : Env} {Q : AX → St → Prop} {s : St} : xp E l21_1 s Q = xp E b21_1 s Q := rfl
def b21_2 : XC := (.seq (.seq (.reg [1, 5, 61] false [⟨(some 57), .always, .q (.mv (.t 5))⟩,
  ⟨(some 58), .always, .q (.fa 4 (.t 1))⟩,
  ⟨(some 59), .always, .q (.load none (.t 58))⟩,
  ⟨(some 60), .always, .q (.lenL (.t 59))⟩,
  ⟨(some 61), .always, .q (.bin .lss .no false (.t 57) (.t 60))⟩])
  (.cond (.t 61) .skip
  (.exit 4)))
  (.seq (.block 5 (.seq (.reg [1, 5, 81] false [⟨(some 64), .always, .q (.fa 4 (.t 1))⟩,
  ⟨(some 65), .always, .q (.load none (.t 64))⟩,
  ⟨(some 66), .always, .q (.mv (.t 5))⟩,
  ⟨(some 67), .always, .q (.iaS 6 (.t 65) (.t 66))⟩,
  ⟨(some 68), .always, .q (.fa 2 (.t 67))⟩,
  ⟨(some 69), .always, .q (.load none (.t 68))⟩,
  ⟨(some 70), .always, .q (.lenL (.t 69))⟩,
  ⟨(some 71), .always, .q (.bin .gtr .no true (.t 70) (.k (.sc (.int .i64 10))))⟩,
  ⟨(some 72), .always, .q (.mv (.t 71))⟩,
  ⟨(some 73), (.on 72 false), .q (.fa 4 (.t 1))⟩,
  ⟨(some 74), (.on 72 false), .q (.load none (.t 73))⟩,
  ⟨(some 75), (.on 72 false), .q (.mv (.t 5))⟩,
  ⟨(some 76), (.on 72 false), .q (.iaS 6 (.t 74) (.t 75))⟩,
  ⟨(some 77), (.on 72 false), .q (.fa 3 (.t 76))⟩,
  ⟨(some 78), (.on 72 false), .q (.load none (.t 77))⟩,
  ⟨(some 79), (.on 72 false), .q (.lenL (.t 78))⟩,
  ⟨(some 80), (.on 72 false), .q (.bin .gtr .no true (.t 79) (.k (.sc (.int .i64 10))))⟩,
  ⟨(some 81), .always, .q (.pick (.t 72) (.k (.sc (.bool true))) (.t 80))⟩])
  (.cond (.t 81) (.seq (.reg [2] false [⟨(some 2), .always, .q (.mv (.k (.sc (.bool false))))⟩])
  .ret)
  .skip)))
  (.reg [1, 5] false [⟨(some 62), .always, .q (.mv (.t 5))⟩,
  ⟨(some 63), .always, .q (.bin .add .no true (.t 62) (.k (.sc (.int .i64 1))))⟩,
  ⟨(some 5), .always, .q (.mv (.t 63))⟩])))
def l21_2 : XC := b21_2
theorem xl21_2 {E : Env} {Q : AX → St → Prop} {s : St} : xp E l21_2 s Q = xp E b21_2 s Q := rfl
def x21 : XC := (.seq (.reg [1] false [⟨(some 1), .always, .e (.box 1 57 true 7 (.t 0))⟩,
  ⟨(some 2), .always, .q (.mv (.k (.sc (.bool false))))⟩])
  (.seq (.seq (.reg [1, 27] false [⟨(some 6), .always, .q (.fa 1 (.t 1))⟩,
  ⟨(some 7), .always, .q (.load none (.t 6))⟩,
  ⟨(some 8), .always, .q (.lenL (.t 7))⟩,
  ⟨(some 9), .always, .q (.bin .gtr .no true (.t 8) (.k (.sc (.int .i64 140))))⟩,
  ⟨(some 10), .always, .q (.mv (.t 9))⟩,
  ⟨(some 11), (.on 10 false), .q (.fa 3 (.t 1))⟩,
  ⟨(some 12), (.on 10 false), .q (.load none (.t 11))⟩,
  ⟨(some 13), (.on 10 false), .q (.lenL (.t 12))⟩,
  ⟨(some 14), (.on 10 false), .q (.bin .gtr .no true (.t 13) (.k (.sc (.int .i64 10))))⟩,
  ⟨(some 15), .always, .q (.pick (.t 10) (.k (.sc (.bool true))) (.t 14))⟩,
  ⟨(some 16), .always, .q (.mv (.t 15))⟩,
  ⟨(some 17), (.on 16 false), .q (.fa 4 (.t 1))⟩,
  ⟨(some 18), (.on 16 false), .q (.load none (.t 17))⟩,
  ⟨(some 19), (.on 16 false), .q (.lenL (.t 18))⟩,
  ⟨(some 20), (.on 16 false), .q (.bin .gtr .no true (.t 19) (.k (.sc (.int .i64 300))))⟩,
  ⟨(some 21), .always, .q (.pick (.t 16) (.k (.sc (.bool true))) (.t 20))⟩,
  ⟨(some 22), .always, .q (.mv (.t 21))⟩,
  ⟨(some 23), (.on 22 false), .q (.fa 2 (.t 1))⟩,
  ⟨(some 24), (.on 22 false), .q (.load none (.t 23))⟩,
  ⟨(some 25), (.on 22 false), .call (.k (.fn 37 [] [])) [(.t 24), (.k (.sc (.int .i64 70))), (.k (.sc (.int .i64 300)))]⟩,
  ⟨(some 26), (.on 22 false), .q (.not (.t 25))⟩,
  ⟨(some 27), .always, .q (.pick (.t 22) (.k (.sc (.bool true))) (.t 26))⟩])
  (.cond (.t 27) (.seq (.reg [2] false [⟨(some 2), .always, .q (.mv (.k (.sc (.bool false))))⟩])
  .ret)
  .skip))
  (.seq (.seq (.reg [1, 3] false [⟨(some 3), .always, .q (.mv (.k (.sc (.int .i64 0))))⟩])
  (.block 0 (.loop l21_0)))
  (.seq (.seq (.reg [1, 4] false [⟨(some 4), .always, .q (.mv (.k (.sc (.int .i64 0))))⟩])
  (.block 2 (.loop l21_1)))
  (.seq (.seq (.reg [1, 5] false [⟨(some 5), .always, .q (.mv (.k (.sc (.int .i64 0))))⟩])
  (.block 4 (.loop l21_2)))
  (.seq (.reg [2] false [⟨(some 2), .always, .q (.mv (.k (.sc (.bool true))))⟩])
  .ret))))))
/-! 22 lodge/check.Cost: 2 params, 2 results, 25 -/
def x22 : XC := (.seq (.reg [1, 2] false [⟨(some 2), .always, .e (.box 2 57 true 7 (.t 0))⟩,
  ⟨(some 4), .always, .q (.mv (.k (.sc (.int .i64 0))))⟩,
  ⟨(some 5), .always, .q (.mv (.k (.sc .nilIface)))⟩])
  (.seq (.seq (.reg [1, 2, 14] false [⟨(some 6), .always, .q (.mv (.t 1))⟩,
  ⟨(some 7), .always, .q (.bin .lss .no true (.t 6) (.k (.sc (.int .i64 0))))⟩,
  ⟨(some 8), .always, .q (.mv (.t 7))⟩,
  ⟨(some 9), (.on 8 false), .q (.mv (.t 1))⟩,
  ⟨(some 10), (.on 8 false), .q (.fa 4 (.t 2))⟩,
  ⟨(some 11), (.on 8 false), .q (.load none (.t 10))⟩,
  ⟨(some 12), (.on 8 false), .q (.lenL (.t 11))⟩,
  ⟨(some 13), (.on 8 false), .q (.bin .geq .no false (.t 9) (.t 12))⟩,
  ⟨(some 14), .always, .q (.pick (.t 8) (.k (.sc (.bool true))) (.t 13))⟩])
  (.cond (.t 14) (.seq (.reg [4, 5] true [⟨(some 15), .always, .q (.load none (.k (.gl 1)))⟩,
  ⟨(some 4), .always, .q (.mv (.k (.sc (.int .i64 0))))⟩,
  ⟨(some 5), .always, .q (.mv (.t 15))⟩])
  .ret)
  .skip))
  (.seq (.reg [4, 5] true [⟨(some 16), .always, .q (.load (some 7) (.t 2))⟩,
  ⟨(some 17), .always, .q (.fa 4 (.t 2))⟩,
  ⟨(some 18), .always, .q (.load none (.t 17))⟩,
  ⟨(some 19), .always, .q (.mv (.t 1))⟩,
  ⟨(some 20), .always, .q (.iaS 6 (.t 18) (.t 19))⟩,
  ⟨(some 21), .always, .q (.load (some 6) (.t 20))⟩,
  ⟨(some 22), .always, .call (.k (.fn 39 [] [])) [(.t 16), (.t 21)]⟩,
  ⟨(some 23), .always, .q (.ext (.t 22) 0)⟩,
  ⟨(some 24), .always, .q (.ext (.t 22) 1)⟩,
  ⟨(some 4), .always, .q (.mv (.t 23))⟩,
  ⟨(some 5), .always, .q (.mv (.t 24))⟩])
  .ret)))
/-! 23 lodge/check.Total: 1 params, 2 results, 31 -/
def b23_0 : XC := (.seq (.reg [1, 5, 16, 17, 18] false [⟨(some 18), .always, .q (.bin .lss .no false (.t 17) (.t 16))⟩])
  (.seq (.cond (.t 18) .skip
  (.exit 0))
  (.seq (.block 1 (.seq (.reg [1, 5, 6, 16, 17] false [⟨(some 19), .always, .q (.mv (.t 17))⟩,
  ⟨(some 6), .always, .q (.mv (.t 19))⟩])
  (.seq (.reg [1, 5, 7, 16, 17] false [⟨(some 21), .always, .q (.load (some 7) (.t 1))⟩,
  ⟨(some 22), .always, .q (.mv (.t 6))⟩,
  ⟨(some 23), .always, .call (.k (.fn 22 [] [])) [(.t 21), (.t 22)]⟩,
  ⟨(some 20), .always, .q (.mv (.t 23))⟩,
  ⟨(some 24), .always, .q (.ext (.t 20) 0)⟩,
  ⟨(some 25), .always, .q (.ext (.t 20) 1)⟩,
  ⟨(some 7), .always, .q (.mv (.t 24))⟩,
  ⟨(some 8), .always, .q (.mv (.t 25))⟩])
  (.reg [1, 5, 16, 17] false [⟨(some 26), .always, .q (.mv (.t 5))⟩,
  ⟨(some 27), .always, .q (.mv (.t 7))⟩,
  ⟨(some 28), .always, .q (.bin .add .no false (.t 26) (.t 27))⟩,
  ⟨(some 5), .always, .q (.mv (.t 28))⟩]))))
  (.reg [1, 5, 16, 17] false [⟨(some 29), .always, .q (.bin .add .no true (.t 17) (.k (.sc (.int .i64 1))))⟩,
  ⟨(some 17), .always, .q (.mv (.t 29))⟩]))))
def l23_0 : XC := b23_0
theorem xl23_0 {E : Env} {Q : AX → St → Prop} {s : St} : xp E l23_0 s Q = xp E b23_0 s Q := rfl
def x23 : XC := (.seq (.reg [1] false [⟨(some 1), .always, .e (.box 1 57 true 7 (.t 0))⟩,
  ⟨(some 2), .always, .q (.mv (.k (.sc (.int .i64 0))))⟩,
  ⟨(some 3), .always, .q (.mv (.k (.sc .nilIface)))⟩])
  (.seq (.seq (.reg [1, 4] false [⟨(some 9), .always, .q (.load (some 7) (.t 1))⟩,
  ⟨(some 10), .always, .call (.k (.fn 20 [] [])) [(.t 9)]⟩,
  ⟨(some 4), .always, .q (.mv (.t 10))⟩])
  (.seq (.reg [1, 4, 12] false [⟨(some 11), .always, .q (.mv (.t 4))⟩,
  ⟨(some 12), .always, .q (.bin .neq .iface true (.t 11) (.k (.sc .nilIface)))⟩])
  (.cond (.t 12) (.seq (.reg [2, 3] false [⟨(some 13), .always, .q (.mv (.t 4))⟩,
  ⟨(some 2), .always, .q (.mv (.k (.sc (.int .i64 0))))⟩,
  ⟨(some 3), .always, .q (.mv (.t 13))⟩])
  .ret)
  .skip)))
  (.seq (.reg [1, 5] false [⟨(some 5), .always, .q (.mv (.k (.sc (.int .i64 0))))⟩])
  (.seq (.seq (.reg [1, 5, 16, 17] false [⟨(some 14), .always, .q (.fa 4 (.t 1))⟩,
  ⟨(some 15), .always, .q (.load none (.t 14))⟩,
  ⟨(some 16), .always, .q (.lenL (.t 15))⟩,
  ⟨(some 17), .always, .q (.mv (.k (.sc (.int .i64 0))))⟩])
  (.block 0 (.loop l23_0)))
  (.seq (.reg [2, 3] false [⟨(some 30), .always, .q (.mv (.t 5))⟩,
  ⟨(some 2), .always, .q (.mv (.t 30))⟩,
  ⟨(some 3), .always, .q (.mv (.k (.sc .nilIface)))⟩])
  .ret)))))
/-! 24 lodge/lodgesee.Is: 2 params, 1 results, 9 -/
def x24 : XC := (.seq (.reg [0, 1] false [⟨(some 4), .always, .q (.mv (.k (.sc (.bool false))))⟩])
  (.seq (.reg [4] false [⟨(some 5), .always, .q (.mv (.t 0))⟩,
  ⟨(some 6), .always, .q (.mv (.t 1))⟩,
  ⟨(some 7), .always, .call (.k (.fn 40 [] [])) [(.t 6)]⟩,
  ⟨(some 8), .always, .call (.k (.fn 11 [] [])) [(.t 5), (.t 7)]⟩,
  ⟨(some 4), .always, .q (.mv (.t 8))⟩])
  .ret))
/-! 28 lodge/lodgeref.SameFault: 2 params, 1 results, 24 -/
def x28 : XC := (.seq (.reg [2, 3] false [⟨(some 2), .always, .e (.box 2 43 true 3 (.t 0))⟩,
  ⟨(some 3), .always, .e (.box 3 43 true 3 (.t 1))⟩,
  ⟨(some 4), .always, .q (.mv (.k (.sc (.bool false))))⟩])
  (.seq (.reg [4] false [⟨(some 5), .always, .q (.fa 0 (.t 2))⟩,
  ⟨(some 6), .always, .q (.load none (.t 5))⟩,
  ⟨(some 7), .always, .q (.fa 0 (.t 3))⟩,
  ⟨(some 8), .always, .q (.load none (.t 7))⟩,
  ⟨(some 9), .always, .q (.bin .eql .no false (.t 6) (.t 8))⟩,
  ⟨(some 10), .always, .q (.mv (.t 9))⟩,
  ⟨(some 11), (.on 10 true), .q (.fa 1 (.t 2))⟩,
  ⟨(some 12), (.on 10 true), .q (.load none (.t 11))⟩,
  ⟨(some 13), (.on 10 true), .q (.fa 1 (.t 3))⟩,
  ⟨(some 14), (.on 10 true), .q (.load none (.t 13))⟩,
  ⟨(some 15), (.on 10 true), .q (.bin .eql .bool false (.t 12) (.t 14))⟩,
  ⟨(some 16), .always, .q (.pick (.t 10) (.t 15) (.k (.sc (.bool false))))⟩,
  ⟨(some 17), .always, .q (.mv (.t 16))⟩,
  ⟨(some 18), (.on 17 true), .q (.fa 2 (.t 2))⟩,
  ⟨(some 19), (.on 17 true), .q (.load none (.t 18))⟩,
  ⟨(some 20), (.on 17 true), .q (.fa 2 (.t 3))⟩,
  ⟨(some 21), (.on 17 true), .q (.load none (.t 20))⟩,
  ⟨(some 22), (.on 17 true), .q (.bin .eql .no false (.t 19) (.t 21))⟩,
  ⟨(some 23), .always, .q (.pick (.t 17) (.t 22) (.k (.sc (.bool false))))⟩,
  ⟨(some 4), .always, .q (.mv (.t 23))⟩])
  .ret))
/-! 29 lodge/lodgesee.Fault: 1 params, 1 results, 38 -/
def x29 : XC := (.seq (.reg [0, 2] false [⟨(some 2), .always, .e (.new 2 43 true [(.sc (.int .i64 0)), (.sc (.bool false)), (.sc (.int .i64 0))])⟩])
  (.seq (.seq (.reg [0, 2, 6] false [⟨(some 5), .always, .q (.mv (.t 0))⟩,
  ⟨(some 6), .always, .q (.bin .eql .iface true (.t 5) (.k (.sc .nilIface)))⟩])
  (.cond (.t 6) (.seq (.reg [2] false [⟨(some 7), .always, .call (.k (.fn 30 [] [])) []⟩,
  ⟨none, .always, .e (.sto 3 (.t 2) (.t 7))⟩])
  .ret)
  .skip))
  (.seq (.reg [0, 2, 3, 4] false [⟨(some 9), .always, .q (.mv (.t 0))⟩,
  ⟨(some 10), .always, .q (.tas 91 (some (.sc (.pointer none))) true (.t 9))⟩,
  ⟨(some 8), .always, .q (.mv (.t 10))⟩,
  ⟨(some 11), .always, .q (.ext (.t 8) 0)⟩,
  ⟨(some 12), .always, .q (.ext (.t 8) 1)⟩,
  ⟨(some 3), .always, .q (.mv (.t 11))⟩,
  ⟨(some 4), .always, .q (.mv (.t 12))⟩])
  (.seq (.seq (.reg [0, 2, 3, 14] false [⟨(some 13), .always, .q (.mv (.t 4))⟩,
  ⟨(some 14), .always, .q (.not (.t 13))⟩])
  (.cond (.t 14) (.seq (.reg [2] false [⟨(some 15), .always, .q (.mv (.t 0))⟩,
  ⟨(some 16), .always, .call (.k (.fn 48 [] [])) [(.t 15)]⟩,
  ⟨(some 17), .always, .call (.k (.fn 40 [] [])) [(.t 16)]⟩,
  ⟨none, .always, .e (.sto 3 (.t 2) (.t 17))⟩])
  .ret)
  .skip))
  (.seq (.seq (.reg [2, 3, 26] false [⟨(some 18), .always, .q (.mv (.t 3))⟩,
  ⟨(some 19), .always, .q (.bin .eql .ptr true (.t 18) (.k (.sc (.pointer none))))⟩,
  ⟨(some 20), .always, .q (.mv (.t 19))⟩,
  ⟨(some 21), (.on 20 false), .q (.mv (.t 3))⟩,
  ⟨(some 22), (.on 20 false), .q (.nilck (.t 21))⟩,
  ⟨(some 23), (.on 20 false), .q (.fa 1 (.t 22))⟩,
  ⟨(some 24), (.on 20 false), .q (.load none (.t 23))⟩,
  ⟨(some 25), (.on 20 false), .q (.bin .eql .iface true (.t 24) (.k (.sc .nilIface)))⟩,
  ⟨(some 26), .always, .q (.pick (.t 20) (.k (.sc (.bool true))) (.t 25))⟩])
  (.cond (.t 26) (.seq (.reg [2] false [⟨(some 27), .always, .call (.k (.fn 40 [] [])) [(.k (.sc (.int .i64 (-1))))]⟩,
  ⟨none, .always, .e (.sto 3 (.t 2) (.t 27))⟩])
  .ret)
  .skip))
  (.seq (.regD [2] [0, 1, 3, 7, 15, 0, 32, 96, 224, 511, 1023] [⟨(some 28), .always, .q (.mv (.t 3))⟩,
  ⟨(some 29), .always, .q (.nilck (.t 28))⟩,
  ⟨(some 30), .always, .q (.fa 1 (.t 29))⟩,
  ⟨(some 31), .always, .q (.load none (.t 30))⟩,
  ⟨(some 32), .always, .call (.k (.fn 48 [] [])) [(.t 31)]⟩,
  ⟨(some 33), .always, .q (.mv (.t 3))⟩,
  ⟨(some 34), .always, .q (.nilck (.t 33))⟩,
  ⟨(some 35), .always, .q (.fa 0 (.t 34))⟩,
  ⟨(some 36), .always, .q (.load none (.t 35))⟩,
  ⟨(some 37), .always, .call (.k (.fn 12 [] [])) [(.t 32), (.t 36)]⟩,
  ⟨none, .always, .e (.sto 3 (.t 2) (.t 37))⟩])
  .ret))))))
/-! 30 lodge/lodgeref.None: 0 params, 1 results, 2 -/
def x30 : XC := (.seq (.reg [0] false [⟨(some 0), .always, .e (.new 0 43 true [(.sc (.int .i64 0)), (.sc (.bool false)), (.sc (.int .i64 0))])⟩])
  (.seq (.reg [0] false [⟨(some 1), .always, .q (.build [(.sc (.int .i64 0)), (.sc (.bool false)), (.sc (.int .i64 0))] [])⟩,
  ⟨none, .always, .e (.sto 3 (.t 0) (.t 1))⟩])
  .ret))
/-! 31 lodge/lodgeref3.Elems: 1 params, 1 results, 22 -/
def b31_0 : XC := (.seq (.seq (.reg [0, 3, 4, 12] false [⟨(some 9), .always, .q (.mv (.t 4))⟩,
  ⟨(some 10), .always, .q (.mv (.t 0))⟩,
  ⟨(some 11), .always, .q (.lenL (.t 10))⟩,
  ⟨(some 12), .always, .q (.bin .lss .no false (.t 9) (.t 11))⟩])
  (.cond (.t 12) .skip
  (.exit 0)))
  (.seq (.block 1 (.reg [0, 3, 4] false [⟨(some 15), .always, .q (.mv (.t 3))⟩,
  ⟨(some 16), .always, .q (.mv (.t 0))⟩,
  ⟨(some 17), .always, .q (.mv (.t 4))⟩,
  ⟨(some 18), .always, .q (.iaS 1 (.t 16) (.t 17))⟩,
  ⟨(some 19), .always, .q (.load none (.t 18))⟩,
  ⟨(some 20), .always, .q (.bin .mul .no false (.t 15) (.t 19))⟩,
  ⟨(some 3), .always, .q (.mv (.t 20))⟩]))
  (.reg [0, 3, 4] false [⟨(some 13), .always, .q (.mv (.t 4))⟩,
  ⟨(some 14), .always, .q (.bin .add .no true (.t 13) (.k (.sc (.int .i64 1))))⟩,
  ⟨(some 4), .always, .q (.mv (.t 14))⟩])))
def l31_0 : XC := b31_0
theorem xl31_0 {E : Env} {Q : AX → St → Prop} {s : St} : xp E l31_0 s Q = xp E b31_0 s Q := rfl
def x31 : XC := (.seq (.reg [0] false [⟨(some 2), .always, .q (.mv (.k (.sc (.int .i64 0))))⟩])
  (.seq (.seq (.reg [0, 8] false [⟨(some 5), .always, .q (.mv (.t 0))⟩,
  ⟨(some 6), .always, .q (.build [(.sc (.slice none 0 0)), (.sc (.bool false))] [(0, 1, (.t 5))])⟩,
  ⟨(some 7), .always, .call (.k (.fn 49 [] [])) [(.t 6)]⟩,
  ⟨(some 8), .always, .q (.bin .neq .no true (.t 7) (.k (.sc (.int .i64 0))))⟩])
  (.cond (.t 8) (.seq (.reg [2] false [⟨(some 2), .always, .q (.mv (.k (.sc (.int .i64 0))))⟩])
  .ret)
  .skip))
  (.seq (.reg [0, 3] false [⟨(some 3), .always, .q (.mv (.k (.sc (.int .i64 1))))⟩])
  (.seq (.seq (.reg [0, 3, 4] false [⟨(some 4), .always, .q (.mv (.k (.sc (.int .i64 0))))⟩])
  (.block 0 (.loop l31_0)))
  (.seq (.reg [2] false [⟨(some 21), .always, .q (.mv (.t 3))⟩,
  ⟨(some 2), .always, .q (.mv (.t 21))⟩])
  .ret)))))
/-! 32 lodge/shape.Bytes: 1 params, 1 results, 12 -/
def x32 : XC := (.seq (.reg [1] false [⟨(some 1), .always, .e (.box 1 26 true 2 (.t 0))⟩,
  ⟨(some 2), .always, .q (.mv (.k (.sc (.int .i64 0))))⟩])
  (.seq (.seq (.reg [1, 4] false [⟨(some 3), .always, .q (.fa 1 (.t 1))⟩,
  ⟨(some 4), .always, .q (.load none (.t 3))⟩])
  (.cond (.t 4) (.seq (.reg [2] false [⟨(some 5), .always, .q (.fa 0 (.t 1))⟩,
  ⟨(some 6), .always, .q (.load none (.t 5))⟩,
  ⟨(some 7), .always, .call (.k (.fn 50 [] [])) [(.t 6)]⟩,
  ⟨(some 8), .always, .q (.bin .mul .no true (.k (.sc (.int .i64 4))) (.t 7))⟩,
  ⟨(some 2), .always, .q (.mv (.t 8))⟩])
  .ret)
  .skip))
  (.seq (.reg [2] false [⟨(some 9), .always, .q (.fa 0 (.t 1))⟩,
  ⟨(some 10), .always, .q (.load none (.t 9))⟩,
  ⟨(some 11), .always, .call (.k (.fn 50 [] [])) [(.t 10)]⟩,
  ⟨(some 2), .always, .q (.mv (.t 11))⟩])
  .ret)))
/-! 33 lodge/lodgeref.Ints: 1 params, 1 results, 22 -/
def b33_0 : XC := (.seq (.seq (.reg [0, 3, 4, 11] false [⟨(some 8), .always, .q (.mv (.t 4))⟩,
  ⟨(some 9), .always, .q (.mv (.t 0))⟩,
  ⟨(some 10), .always, .q (.lenL (.t 9))⟩,
  ⟨(some 11), .always, .q (.bin .lss .no false (.t 8) (.t 10))⟩])
  (.cond (.t 11) .skip
  (.exit 0)))
  (.seq (.block 1 (.reg [0, 3, 4] false [⟨(some 14), .always, .q (.mv (.t 3))⟩,
  ⟨(some 15), .always, .q (.mv (.t 0))⟩,
  ⟨(some 16), .always, .q (.mv (.t 4))⟩,
  ⟨(some 17), .always, .q (.iaS 1 (.t 15) (.t 16))⟩,
  ⟨(some 18), .always, .q (.load none (.t 17))⟩,
  ⟨(some 19), .always, .e (.bsl true 3 [(.sc (.int .i64 0))] 1 1 [(0, 1, (.t 18))])⟩,
  ⟨(some 20), .always, .e (.app 3 1 8 .sl (.t 14) (.t 19))⟩,
  ⟨(some 3), .always, .q (.mv (.t 20))⟩]))
  (.reg [0, 3, 4] false [⟨(some 12), .always, .q (.mv (.t 4))⟩,
  ⟨(some 13), .always, .q (.bin .add .no true (.t 12) (.k (.sc (.int .i64 1))))⟩,
  ⟨(some 4), .always, .q (.mv (.t 13))⟩])))
def l33_0 : XC := b33_0
theorem xl33_0 {E : Env} {Q : AX → St → Prop} {s : St} : xp E l33_0 s Q = xp E b33_0 s Q := rfl
def x33 : XC := (.seq (.reg [0] false [⟨(some 2), .always, .q (.mv (.k (.sc (.slice none 0 0))))⟩])
  (.seq (.reg [0, 3] false [⟨(some 5), .always, .q (.mv (.t 0))⟩,
  ⟨(some 6), .always, .q (.lenL (.t 5))⟩,
  ⟨(some 7), .always, .e (.mks 3 [(.sc (.int .i64 0))] 1 8 (.k (.sc (.int .i64 0))) (.t 6))⟩,
  ⟨(some 3), .always, .q (.mv (.t 7))⟩])
  (.seq (.seq (.reg [0, 3, 4] false [⟨(some 4), .always, .q (.mv (.k (.sc (.int .i64 0))))⟩])
  (.block 0 (.loop l33_0)))
  (.seq (.reg [2] false [⟨(some 21), .always, .q (.mv (.t 3))⟩,
  ⟨(some 2), .always, .q (.mv (.t 21))⟩])
  .ret))))
/-! 34 lodge/check.parts: 1 params, 1 results, 132 -/
def b34_0 : XC := (.seq (.reg [1, 45, 46, 47, 48] false [⟨(some 48), .always, .q (.bin .lss .no false (.t 47) (.t 46))⟩])
  (.seq (.cond (.t 48) .skip
  (.exit 0))
  (.seq (.block 1 (.seq (.reg [1, 3, 4, 45, 46, 47] false [⟨(some 49), .always, .q (.mv (.t 47))⟩,
  ⟨(some 50), .always, .q (.iaS 3 (.t 45) (.t 47))⟩,
  ⟨(some 51), .always, .q (.load (some 3) (.t 50))⟩,
  ⟨(some 4), .always, .e (.new 4 49 true [(.sc (.int .i64 0)), (.sc (.slice none 0 0)), (.sc (.bool false))])⟩,
  ⟨(some 3), .always, .q (.mv (.t 49))⟩,
  ⟨none, .always, .e (.sto 3 (.t 4) (.t 51))⟩])
  (.seq (.reg [1, 3, 4, 5, 45, 46, 47] false [⟨(some 52), .always, .q (.fa 1 (.t 4))⟩,
  ⟨(some 53), .always, .q (.load (some 2) (.t 52))⟩,
  ⟨(some 54), .always, .call (.k (.fn 51 [] [])) [(.t 53)]⟩,
  ⟨(some 5), .always, .q (.mv (.t 54))⟩])
  (.seq (.seq (.reg [1, 3, 5, 45, 46, 47, 79] true [⟨(some 55), .always, .q (.mv (.t 5))⟩,
  ⟨(some 56), .always, .q (.bin .eql .iface true (.t 55) (.k (.sc .nilIface)))⟩,
  ⟨(some 57), .always, .q (.mv (.t 56))⟩,
  ⟨(some 58), (.on 57 true), .q (.fa 0 (.t 4))⟩,
  ⟨(some 59), (.on 57 true), .q (.load none (.t 58))⟩,
  ⟨(some 60), (.on 57 true), .q (.bin .lss .no true (.t 59) (.k (.sc (.int .i64 0))))⟩,
  ⟨(some 61), (.on 57 true), .q (.mv (.t 60))⟩,
  ⟨(some 62), (.on 61 false), .q (.fa 0 (.t 4))⟩,
  ⟨(some 63), (.on 61 false), .q (.load none (.t 62))⟩,
  ⟨(some 64), (.on 61 false), .q (.fa 0 (.t 1))⟩,
  ⟨(some 65), (.on 61 false), .q (.load none (.t 64))⟩,
  ⟨(some 66), (.on 61 false), .q (.bin .gtr .no false (.t 63) (.t 65))⟩,
  ⟨(some 67), (.on 57 true), .q (.pick (.t 61) (.k (.sc (.bool true))) (.t 66))⟩,
  ⟨(some 68), (.on 57 true), .q (.mv (.t 67))⟩,
  ⟨(some 69), (.on 68 false), .q (.fa 1 (.t 4))⟩,
  ⟨(some 70), (.on 68 false), .q (.load (some 2) (.t 69))⟩,
  ⟨(some 71), (.on 68 false), .call (.k (.fn 32 [] [])) [(.t 70)]⟩,
  ⟨(some 72), (.on 68 false), .q (.fa 0 (.t 1))⟩,
  ⟨(some 73), (.on 68 false), .q (.load none (.t 72))⟩,
  ⟨(some 74), (.on 68 false), .q (.fa 0 (.t 4))⟩,
  ⟨(some 75), (.on 68 false), .q (.load none (.t 74))⟩,
  ⟨(some 76), (.on 68 false), .q (.bin .sub .no false (.t 73) (.t 75))⟩,
  ⟨(some 77), (.on 68 false), .q (.bin .gtr .no false (.t 71) (.t 76))⟩,
  ⟨(some 78), (.on 57 true), .q (.pick (.t 68) (.k (.sc (.bool true))) (.t 77))⟩,
  ⟨(some 79), .always, .q (.pick (.t 57) (.t 78) (.k (.sc (.bool false))))⟩])
  (.cond (.t 79) (.reg [1, 3, 5, 45, 46, 47] false [⟨(some 80), .always, .q (.load none (.k (.gl 5)))⟩,
  ⟨(some 5), .always, .q (.mv (.t 80))⟩])
  .skip))
  (.seq (.reg [1, 3, 5, 45, 46, 47, 82] false [⟨(some 81), .always, .q (.mv (.t 5))⟩,
  ⟨(some 82), .always, .q (.bin .neq .iface true (.t 81) (.k (.sc .nilIface)))⟩])
  (.cond (.t 82) (.seq (.reg [2] false [⟨(some 83), .always, .q (.mv (.t 3))⟩,
  ⟨(some 84), .always, .q (.mv (.t 5))⟩,
  ⟨(some 85), .always, .call (.k (.fn 36 [] [])) [(.t 83), (.t 84)]⟩,
  ⟨(some 2), .always, .q (.mv (.t 85))⟩])
  .ret)
  .skip))))))
  (.reg [1, 45, 46, 47] false [⟨(some 86), .always, .q (.bin .add .no true (.t 47) (.k (.sc (.int .i64 1))))⟩,
  ⟨(some 47), .always, .q (.mv (.t 86))⟩]))))
def l34_0 : XC := b34_0
theorem xl34_0 {E : Env} {Q : AX → St → Prop} {s : St} : xp E l34_0 s Q = xp E b34_0 s Q := rfl
def b34_1 : XC := (.seq (.reg [1, 88, 89, 90, 91] false [⟨(some 91), .always, .q (.bin .lss .no false (.t 90) (.t 89))⟩])
  (.seq (.cond (.t 91) .skip
  (.exit 2))
  (.seq (.block 3 (.seq (.reg [1, 6, 7, 88, 89, 90] false [⟨(some 92), .always, .q (.mv (.t 90))⟩,
  ⟨(some 93), .always, .q (.iaS 3 (.t 88) (.t 90))⟩,
  ⟨(some 94), .always, .q (.load (some 3) (.t 93))⟩,
  ⟨(some 7), .always, .e (.new 7 28 true [(.sc (.slice none 0 0)), (.sc (.bool false)), (.sc (.slice none 0 0))])⟩,
  ⟨(some 6), .always, .q (.mv (.t 92))⟩,
  ⟨none, .always, .e (.sto 3 (.t 7) (.t 94))⟩])
  (.seq (.reg [1, 6, 8, 88, 89, 90] false [⟨(some 95), .always, .q (.load (some 3) (.t 7))⟩,
  ⟨(some 96), .always, .call (.k (.fn 46 [] [])) [(.t 95)]⟩,
  ⟨(some 8), .always, .q (.mv (.t 96))⟩])
  (.seq (.reg [1, 6, 8, 88, 89, 90, 98] false [⟨(some 97), .always, .q (.mv (.t 8))⟩,
  ⟨(some 98), .always, .q (.bin .neq .iface true (.t 97) (.k (.sc .nilIface)))⟩])
  (.cond (.t 98) (.seq (.reg [2] false [⟨(some 99), .always, .q (.mv (.t 6))⟩,
  ⟨(some 100), .always, .q (.mv (.t 8))⟩,
  ⟨(some 101), .always, .call (.k (.fn 36 [] [])) [(.t 99), (.t 100)]⟩,
  ⟨(some 2), .always, .q (.mv (.t 101))⟩])
  .ret)
  .skip)))))
  (.reg [1, 88, 89, 90] false [⟨(some 102), .always, .q (.bin .add .no true (.t 90) (.k (.sc (.int .i64 1))))⟩,
  ⟨(some 90), .always, .q (.mv (.t 102))⟩]))))
def l34_1 : XC := b34_1
theorem xl34_1 {E : Env} {Q : AX → St → Prop} {s : St} : xp E l34_1 s Q = xp E b34_1 s Q := rfl
def b34_2 : XC := (.seq (.reg [1, 104, 105, 106, 107] false [⟨(some 107), .always, .q (.bin .lss .no false (.t 106) (.t 105))⟩])
  (.seq (.cond (.t 107) .skip
  (.exit 4))
  (.seq (.block 5 (.seq (.reg [1, 9, 10, 104, 105, 106] false [⟨(some 108), .always, .q (.mv (.t 106))⟩,
  ⟨(some 109), .always, .q (.iaS 2 (.t 104) (.t 106))⟩,
  ⟨(some 110), .always, .q (.load (some 2) (.t 109))⟩,
  ⟨(some 10), .always, .e (.new 10 26 true [(.sc (.slice none 0 0)), (.sc (.bool false))])⟩,
  ⟨(some 9), .always, .q (.mv (.t 108))⟩,
  ⟨none, .always, .e (.sto 2 (.t 10) (.t 110))⟩])
  (.seq (.reg [1, 9, 11, 104, 105, 106] false [⟨(some 111), .always, .q (.load (some 2) (.t 10))⟩,
  ⟨(some 112), .always, .call (.k (.fn 51 [] [])) [(.t 111)]⟩,
  ⟨(some 11), .always, .q (.mv (.t 112))⟩])
  (.seq (.reg [1, 9, 11, 104, 105, 106, 114] false [⟨(some 113), .always, .q (.mv (.t 11))⟩,
  ⟨(some 114), .always, .q (.bin .neq .iface true (.t 113) (.k (.sc .nilIface)))⟩])
  (.cond (.t 114) (.seq (.reg [2] false [⟨(some 115), .always, .q (.mv (.t 9))⟩,
  ⟨(some 116), .always, .q (.mv (.t 11))⟩,
  ⟨(some 117), .always, .call (.k (.fn 36 [] [])) [(.t 115), (.t 116)]⟩,
  ⟨(some 2), .always, .q (.mv (.t 117))⟩])
  .ret)
  .skip)))))
  (.reg [1, 104, 105, 106] false [⟨(some 118), .always, .q (.bin .add .no true (.t 106) (.k (.sc (.int .i64 1))))⟩,
  ⟨(some 106), .always, .q (.mv (.t 118))⟩]))))
def l34_2 : XC := b34_2
theorem xl34_2 {E : Env} {Q : AX → St → Prop} {s : St} : xp E l34_2 s Q = xp E b34_2 s Q := rfl
def x34 : XC := (.seq (.reg [1] false [⟨(some 1), .always, .e (.box 1 57 true 7 (.t 0))⟩,
  ⟨(some 2), .always, .q (.mv (.k (.sc .nilIface)))⟩])
  (.seq (.seq (.reg [1, 33] false [⟨(some 12), .always, .q (.fa 1 (.t 1))⟩,
  ⟨(some 13), .always, .q (.load none (.t 12))⟩,
  ⟨(some 14), .always, .q (.lenL (.t 13))⟩,
  ⟨(some 15), .always, .q (.bin .gtr .no true (.t 14) (.k (.sc (.int .i64 128))))⟩,
  ⟨(some 16), .always, .q (.mv (.t 15))⟩,
  ⟨(some 17), (.on 16 false), .q (.fa 2 (.t 1))⟩,
  ⟨(some 18), (.on 16 false), .q (.load none (.t 17))⟩,
  ⟨(some 19), (.on 16 false), .q (.lenL (.t 18))⟩,
  ⟨(some 20), (.on 16 false), .q (.bin .gtr .no true (.t 19) (.k (.sc (.int .i64 64))))⟩,
  ⟨(some 21), .always, .q (.pick (.t 16) (.k (.sc (.bool true))) (.t 20))⟩,
  ⟨(some 22), .always, .q (.mv (.t 21))⟩,
  ⟨(some 23), (.on 22 false), .q (.fa 3 (.t 1))⟩,
  ⟨(some 24), (.on 22 false), .q (.load none (.t 23))⟩,
  ⟨(some 25), (.on 22 false), .q (.lenL (.t 24))⟩,
  ⟨(some 26), (.on 22 false), .q (.bin .gtr .no true (.t 25) (.k (.sc (.int .i64 8))))⟩,
  ⟨(some 27), .always, .q (.pick (.t 22) (.k (.sc (.bool true))) (.t 26))⟩,
  ⟨(some 28), .always, .q (.mv (.t 27))⟩,
  ⟨(some 29), (.on 28 false), .q (.fa 4 (.t 1))⟩,
  ⟨(some 30), (.on 28 false), .q (.load none (.t 29))⟩,
  ⟨(some 31), (.on 28 false), .q (.lenL (.t 30))⟩,
  ⟨(some 32), (.on 28 false), .q (.bin .gtr .no true (.t 31) (.k (.sc (.int .i64 2048))))⟩,
  ⟨(some 33), .always, .q (.pick (.t 28) (.k (.sc (.bool true))) (.t 32))⟩])
  (.cond (.t 33) (.seq (.reg [2] false [⟨(some 34), .always, .q (.load none (.k (.gl 0)))⟩,
  ⟨(some 2), .always, .q (.mv (.t 34))⟩])
  .ret)
  .skip))
  (.seq (.seq (.reg [1, 42] false [⟨(some 35), .always, .q (.fa 0 (.t 1))⟩,
  ⟨(some 36), .always, .q (.load none (.t 35))⟩,
  ⟨(some 37), .always, .q (.bin .lss .no true (.t 36) (.k (.sc (.int .i64 0))))⟩,
  ⟨(some 38), .always, .q (.mv (.t 37))⟩,
  ⟨(some 39), (.on 38 false), .q (.fa 0 (.t 1))⟩,
  ⟨(some 40), (.on 38 false), .q (.load none (.t 39))⟩,
  ⟨(some 41), (.on 38 false), .q (.bin .gtr .no true (.t 40) (.k (.sc (.int .i64 65536))))⟩,
  ⟨(some 42), .always, .q (.pick (.t 38) (.k (.sc (.bool true))) (.t 41))⟩])
  (.cond (.t 42) (.seq (.reg [2] false [⟨(some 43), .always, .q (.load none (.k (.gl 5)))⟩,
  ⟨(some 2), .always, .q (.mv (.t 43))⟩])
  .ret)
  .skip))
  (.seq (.seq (.reg [1, 45, 46, 47] false [⟨(some 44), .always, .q (.fa 1 (.t 1))⟩,
  ⟨(some 45), .always, .q (.load none (.t 44))⟩,
  ⟨(some 46), .always, .q (.lenL (.t 45))⟩,
  ⟨(some 47), .always, .q (.mv (.k (.sc (.int .i64 0))))⟩])
  (.block 0 (.loop l34_0)))
  (.seq (.seq (.reg [1, 88, 89, 90] false [⟨(some 87), .always, .q (.fa 2 (.t 1))⟩,
  ⟨(some 88), .always, .q (.load none (.t 87))⟩,
  ⟨(some 89), .always, .q (.lenL (.t 88))⟩,
  ⟨(some 90), .always, .q (.mv (.k (.sc (.int .i64 0))))⟩])
  (.block 2 (.loop l34_1)))
  (.seq (.seq (.reg [1, 104, 105, 106] false [⟨(some 103), .always, .q (.fa 3 (.t 1))⟩,
  ⟨(some 104), .always, .q (.load none (.t 103))⟩,
  ⟨(some 105), .always, .q (.lenL (.t 104))⟩,
  ⟨(some 106), .always, .q (.mv (.k (.sc (.int .i64 0))))⟩])
  (.block 4 (.loop l34_2)))
  (.seq (.seq (.reg [130] false [⟨(some 119), .always, .q (.load (some 7) (.t 1))⟩,
  ⟨(some 120), .always, .q (.fa 5 (.t 1))⟩,
  ⟨(some 121), .always, .q (.load none (.t 120))⟩,
  ⟨(some 122), .always, .call (.k (.fn 52 [] [])) [(.t 119), (.t 121)]⟩,
  ⟨(some 123), .always, .q (.not (.t 122))⟩,
  ⟨(some 124), .always, .q (.mv (.t 123))⟩,
  ⟨(some 125), (.on 124 false), .q (.load (some 7) (.t 1))⟩,
  ⟨(some 126), (.on 124 false), .q (.fa 6 (.t 1))⟩,
  ⟨(some 127), (.on 124 false), .q (.load none (.t 126))⟩,
  ⟨(some 128), (.on 124 false), .call (.k (.fn 52 [] [])) [(.t 125), (.t 127)]⟩,
  ⟨(some 129), (.on 124 false), .q (.not (.t 128))⟩,
  ⟨(some 130), .always, .q (.pick (.t 124) (.k (.sc (.bool true))) (.t 129))⟩])
  (.cond (.t 130) (.seq (.reg [2] false [⟨(some 131), .always, .q (.load none (.k (.gl 5)))⟩,
  ⟨(some 2), .always, .q (.mv (.t 131))⟩])
  .ret)
  .skip))
  (.seq (.reg [2] false [⟨(some 2), .always, .q (.mv (.k (.sc .nilIface)))⟩])
  .ret))))))))
/-! 35 lodge/check.Instr: 2 params, 1 results, 14 -/
def x35 : XC := (.seq (.reg [1, 2] false [⟨(some 2), .always, .e (.box 2 57 true 7 (.t 0))⟩,
  ⟨(some 4), .always, .q (.mv (.k (.sc .nilIface)))⟩])
  (.seq (.reg [6] false [⟨(some 8), .always, .q (.load (some 7) (.t 2))⟩,
  ⟨(some 9), .always, .q (.mv (.t 1))⟩,
  ⟨(some 10), .always, .call (.k (.fn 22 [] [])) [(.t 8), (.t 9)]⟩,
  ⟨(some 7), .always, .q (.mv (.t 10))⟩,
  ⟨(some 11), .always, .q (.ext (.t 7) 0)⟩,
  ⟨(some 12), .always, .q (.ext (.t 7) 1)⟩,
  ⟨(some 5), .always, .q (.mv (.t 11))⟩,
  ⟨(some 6), .always, .q (.mv (.t 12))⟩])
  (.seq (.reg [4] false [⟨(some 13), .always, .q (.mv (.t 6))⟩,
  ⟨(some 4), .always, .q (.mv (.t 13))⟩])
  .ret)))
/-! 37 lodge/lodgeworld.Tensors: 3 params, 1 results, 25 -/
def b37_0 : XC := (.seq (.seq (.reg [0, 2, 7, 15] false [⟨(some 12), .always, .q (.mv (.t 7))⟩,
  ⟨(some 13), .always, .q (.mv (.t 0))⟩,
  ⟨(some 14), .always, .q (.lenL (.t 13))⟩,
  ⟨(some 15), .always, .q (.bin .lss .no false (.t 12) (.t 14))⟩])
  (.cond (.t 15) .skip
  (.exit 0)))
  (.seq (.block 1 (.seq (.reg [0, 2, 7, 24] false [⟨(some 18), .always, .q (.mv (.t 0))⟩,
  ⟨(some 19), .always, .q (.mv (.t 7))⟩,
  ⟨(some 20), .always, .q (.iaS 3 (.t 18) (.t 19))⟩,
  ⟨(some 21), .always, .q (.load (some 3) (.t 20))⟩,
  ⟨(some 22), .always, .q (.mv (.t 2))⟩,
  ⟨(some 23), .always, .call (.k (.fn 54 [] [])) [(.t 21), (.t 22)]⟩,
  ⟨(some 24), .always, .q (.not (.t 23))⟩])
  (.cond (.t 24) (.seq (.reg [6] false [⟨(some 6), .always, .q (.mv (.k (.sc (.bool false))))⟩])
  .ret)
  .skip)))
  (.reg [0, 2, 7] false [⟨(some 16), .always, .q (.mv (.t 7))⟩,
  ⟨(some 17), .always, .q (.bin .add .no true (.t 16) (.k (.sc (.int .i64 1))))⟩,
  ⟨(some 7), .always, .q (.mv (.t 17))⟩])))
def l37_0 : XC := b37_0
theorem xl37_0 {E : Env} {Q : AX → St → Prop} {s : St} : xp E l37_0 s Q = xp E b37_0 s Q := rfl
def x37 : XC := (.seq (.reg [0, 1, 2] false [⟨(some 6), .always, .q (.mv (.k (.sc (.bool false))))⟩])
  (.seq (.seq (.reg [0, 2, 11] false [⟨(some 8), .always, .q (.mv (.t 0))⟩,
  ⟨(some 9), .always, .q (.lenL (.t 8))⟩,
  ⟨(some 10), .always, .q (.mv (.t 1))⟩,
  ⟨(some 11), .always, .q (.bin .gtr .no false (.t 9) (.t 10))⟩])
  (.cond (.t 11) (.seq (.reg [6] false [⟨(some 6), .always, .q (.mv (.k (.sc (.bool false))))⟩])
  .ret)
  .skip))
  (.seq (.seq (.reg [0, 2, 7] false [⟨(some 7), .always, .q (.mv (.k (.sc (.int .i64 0))))⟩])
  (.block 0 (.loop l37_0)))
  (.seq (.reg [6] false [⟨(some 6), .always, .q (.mv (.k (.sc (.bool true))))⟩])
  .ret))))
/-! 38 lodge/lodgeworld.Desc: 1 params, 1 results, 7 -/
def x38 : XC := (.seq (.reg [1] false [⟨(some 1), .always, .e (.box 1 26 true 2 (.t 0))⟩,
  ⟨(some 2), .always, .q (.mv (.k (.sc (.bool false))))⟩])
  (.seq (.reg [2] false [⟨(some 3), .always, .q (.fa 0 (.t 1))⟩,
  ⟨(some 4), .always, .q (.load none (.t 3))⟩,
  ⟨(some 5), .always, .q (.lenL (.t 4))⟩,
  ⟨(some 6), .always, .q (.bin .leq .no true (.t 5) (.k (.sc (.int .i64 8))))⟩,
  ⟨(some 2), .always, .q (.mv (.t 6))⟩])
  .ret))
/-! 39 lodge/check.instr: 2 params, 2 results, 120 -/
def b39_0 : XC := (.seq (.reg [2, 3, 38, 39, 40, 41] false [⟨(some 41), .always, .q (.bin .lss .no false (.t 40) (.t 39))⟩])
  (.seq (.cond (.t 41) .skip
  (.exit 0))
  (.seq (.block 1 (.seq (.reg [2, 3, 7, 38, 39, 40] false [⟨(some 42), .always, .q (.iaS 1 (.t 38) (.t 40))⟩,
  ⟨(some 43), .always, .q (.load none (.t 42))⟩,
  ⟨(some 7), .always, .q (.mv (.t 43))⟩])
  (.seq (.reg [2, 3, 38, 39, 40, 47] false [⟨(some 44), .always, .q (.load (some 7) (.t 2))⟩,
  ⟨(some 45), .always, .q (.mv (.t 7))⟩,
  ⟨(some 46), .always, .call (.k (.fn 52 [] [])) [(.t 44), (.t 45)]⟩,
  ⟨(some 47), .always, .q (.not (.t 46))⟩])
  (.cond (.t 47) (.seq (.reg [4, 5] true [⟨(some 48), .always, .q (.load none (.k (.gl 1)))⟩,
  ⟨(some 4), .always, .q (.mv (.k (.sc (.int .i64 0))))⟩,
  ⟨(some 5), .always, .q (.mv (.t 48))⟩])
  .ret)
  .skip))))
  (.reg [2, 3, 38, 39, 40] false [⟨(some 49), .always, .q (.bin .add .no true (.t 40) (.k (.sc (.int .i64 1))))⟩,
  ⟨(some 40), .always, .q (.mv (.t 49))⟩]))))
def l39_0 : XC := b39_0
theorem xl39_0 {E : Env} {Q : AX → St → Prop} {s : St} : xp E l39_0 s Q = xp E b39_0 s Q := rfl
def x39 : XC := (.seq (.reg [2, 3] false [⟨(some 2), .always, .e (.box 2 57 true 7 (.t 0))⟩,
  ⟨(some 3), .always, .e (.box 3 60 true 6 (.t 1))⟩,
  ⟨(some 4), .always, .q (.mv (.k (.sc (.int .i64 0))))⟩,
  ⟨(some 5), .always, .q (.mv (.k (.sc .nilIface)))⟩])
  (.seq (.seq (.reg [2, 3, 25] false [⟨(some 13), .always, .q (.load (some 6) (.t 3))⟩,
  ⟨(some 14), .always, .call (.k (.fn 55 [] [])) [(.t 13)]⟩,
  ⟨(some 15), .always, .q (.not (.t 14))⟩,
  ⟨(some 16), .always, .q (.mv (.t 15))⟩,
  ⟨(some 17), (.on 16 true), .q (.fa 0 (.t 3))⟩,
  ⟨(some 18), (.on 16 true), .q (.load none (.t 17))⟩,
  ⟨(some 19), (.on 16 true), .q (.bin .lss .no true (.t 18) (.k (.sc (.int .i64 22))))⟩,
  ⟨(some 20), (.on 16 true), .q (.mv (.t 19))⟩,
  ⟨(some 21), (.on 20 false), .q (.fa 0 (.t 3))⟩,
  ⟨(some 22), (.on 20 false), .q (.load none (.t 21))⟩,
  ⟨(some 23), (.on 20 false), .q (.bin .gtr .no true (.t 22) (.k (.sc (.int .i64 24))))⟩,
  ⟨(some 24), (.on 16 true), .q (.pick (.t 20) (.k (.sc (.bool true))) (.t 23))⟩,
  ⟨(some 25), .always, .q (.pick (.t 16) (.t 24) (.k (.sc (.bool false))))⟩])
  (.cond (.t 25) (.seq (.reg [4, 5] true [⟨(some 26), .always, .q (.load none (.k (.gl 3)))⟩,
  ⟨(some 4), .always, .q (.mv (.k (.sc (.int .i64 0))))⟩,
  ⟨(some 5), .always, .q (.mv (.t 26))⟩])
  .ret)
  .skip))
  (.seq (.seq (.reg [2, 3, 35] false [⟨(some 27), .always, .q (.load (some 6) (.t 3))⟩,
  ⟨(some 28), .always, .call (.k (.fn 55 [] [])) [(.t 27)]⟩,
  ⟨(some 29), .always, .q (.mv (.t 28))⟩,
  ⟨(some 30), (.on 29 true), .q (.load (some 7) (.t 2))⟩,
  ⟨(some 31), (.on 29 true), .q (.fa 1 (.t 3))⟩,
  ⟨(some 32), (.on 29 true), .q (.load none (.t 31))⟩,
  ⟨(some 33), (.on 29 true), .call (.k (.fn 52 [] [])) [(.t 30), (.t 32)]⟩,
  ⟨(some 34), (.on 29 true), .q (.not (.t 33))⟩,
  ⟨(some 35), .always, .q (.pick (.t 29) (.t 34) (.k (.sc (.bool false))))⟩])
  (.cond (.t 35) (.seq (.reg [4, 5] true [⟨(some 36), .always, .q (.load none (.k (.gl 1)))⟩,
  ⟨(some 4), .always, .q (.mv (.k (.sc (.int .i64 0))))⟩,
  ⟨(some 5), .always, .q (.mv (.t 36))⟩])
  .ret)
  .skip))
  (.seq (.seq (.reg [2, 3, 38, 39, 40] false [⟨(some 37), .always, .q (.fa 2 (.t 3))⟩,
  ⟨(some 38), .always, .q (.load none (.t 37))⟩,
  ⟨(some 39), .always, .q (.lenL (.t 38))⟩,
  ⟨(some 40), .always, .q (.mv (.k (.sc (.int .i64 0))))⟩])
  (.block 0 (.loop l39_0)))
  (.seq (.seq (.reg [2, 3, 52] false [⟨(some 50), .always, .q (.load (some 6) (.t 3))⟩,
  ⟨(some 51), .always, .call (.k (.fn 55 [] [])) [(.t 50)]⟩,
  ⟨(some 52), .always, .q (.not (.t 51))⟩])
  (.cond (.t 52) (.seq (.seq (.reg [3, 8] false [⟨(some 53), .always, .q (.load (some 7) (.t 2))⟩,
  ⟨(some 54), .always, .q (.load (some 6) (.t 3))⟩,
  ⟨(some 55), .always, .call (.k (.fn 56 [] [])) [(.t 53), (.t 54)]⟩,
  ⟨(some 8), .always, .q (.mv (.t 55))⟩])
  (.seq (.reg [3, 8, 57] false [⟨(some 56), .always, .q (.mv (.t 8))⟩,
  ⟨(some 57), .always, .q (.bin .neq .iface true (.t 56) (.k (.sc .nilIface)))⟩])
  (.cond (.t 57) (.seq (.reg [4, 5] false [⟨(some 58), .always, .q (.mv (.t 8))⟩,
  ⟨(some 4), .always, .q (.mv (.k (.sc (.int .i64 0))))⟩,
  ⟨(some 5), .always, .q (.mv (.t 58))⟩])
  .ret)
  .skip)))
  (.seq (.seq (.reg [71] false [⟨(some 59), .always, .q (.fa 1 (.t 3))⟩,
  ⟨(some 60), .always, .q (.load none (.t 59))⟩,
  ⟨(some 61), .always, .q (.bin .neq .no true (.t 60) (.k (.sc (.int .i64 0))))⟩,
  ⟨(some 62), .always, .q (.mv (.t 61))⟩,
  ⟨(some 63), (.on 62 false), .q (.fa 4 (.t 3))⟩,
  ⟨(some 64), (.on 62 false), .q (.load none (.t 63))⟩,
  ⟨(some 65), (.on 62 false), .q (.bin .neq .no true (.t 64) (.k (.sc (.int .i64 0))))⟩,
  ⟨(some 66), .always, .q (.pick (.t 62) (.k (.sc (.bool true))) (.t 65))⟩,
  ⟨(some 67), .always, .q (.mv (.t 66))⟩,
  ⟨(some 68), (.on 67 false), .q (.fa 5 (.t 3))⟩,
  ⟨(some 69), (.on 67 false), .q (.load none (.t 68))⟩,
  ⟨(some 70), (.on 67 false), .q (.bin .neq .no true (.t 69) (.k (.sc (.int .i64 0))))⟩,
  ⟨(some 71), .always, .q (.pick (.t 67) (.k (.sc (.bool true))) (.t 70))⟩])
  (.cond (.t 71) (.seq (.reg [4, 5] true [⟨(some 72), .always, .q (.load none (.k (.gl 5)))⟩,
  ⟨(some 4), .always, .q (.mv (.k (.sc (.int .i64 0))))⟩,
  ⟨(some 5), .always, .q (.mv (.t 72))⟩])
  .ret)
  .skip))
  (.seq (.reg [4, 5] false [⟨(some 4), .always, .q (.mv (.k (.sc (.int .i64 1))))⟩,
  ⟨(some 5), .always, .q (.mv (.k (.sc .nilIface)))⟩])
  .ret)))
  .skip))
  (.seq (.reg [2, 3, 9, 10] false [⟨(some 74), .always, .q (.load (some 7) (.t 2))⟩,
  ⟨(some 75), .always, .q (.load (some 6) (.t 3))⟩,
  ⟨(some 76), .always, .call (.k (.fn 57 [] [])) [(.t 74), (.t 75)]⟩,
  ⟨(some 73), .always, .q (.mv (.t 76))⟩,
  ⟨(some 77), .always, .q (.ext (.t 73) 0)⟩,
  ⟨(some 78), .always, .q (.ext (.t 73) 1)⟩,
  ⟨(some 9), .always, .q (.mv (.t 77))⟩,
  ⟨(some 10), .always, .q (.mv (.t 78))⟩])
  (.seq (.seq (.reg [2, 3, 9, 10, 80] false [⟨(some 79), .always, .q (.mv (.t 10))⟩,
  ⟨(some 80), .always, .q (.bin .neq .iface true (.t 79) (.k (.sc .nilIface)))⟩])
  (.cond (.t 80) (.seq (.reg [4, 5] false [⟨(some 81), .always, .q (.mv (.t 10))⟩,
  ⟨(some 4), .always, .q (.mv (.k (.sc (.int .i64 0))))⟩,
  ⟨(some 5), .always, .q (.mv (.t 81))⟩])
  .ret)
  .skip))
  (.seq (.reg [3, 9, 11] false [⟨(some 82), .always, .q (.fa 1 (.t 2))⟩,
  ⟨(some 83), .always, .q (.load none (.t 82))⟩,
  ⟨(some 84), .always, .q (.fa 1 (.t 3))⟩,
  ⟨(some 85), .always, .q (.load none (.t 84))⟩,
  ⟨(some 86), .always, .q (.iaS 3 (.t 83) (.t 85))⟩,
  ⟨(some 87), .always, .q (.fa 1 (.t 86))⟩,
  ⟨(some 88), .always, .q (.fa 0 (.t 87))⟩,
  ⟨(some 89), .always, .q (.load none (.t 88))⟩,
  ⟨(some 90), .always, .call (.k (.fn 50 [] [])) [(.t 89)]⟩,
  ⟨(some 11), .always, .q (.mv (.t 90))⟩])
  (.seq (.seq (.reg [3, 9, 106] false [⟨(some 91), .always, .q (.fa 4 (.t 3))⟩,
  ⟨(some 92), .always, .q (.load none (.t 91))⟩,
  ⟨(some 93), .always, .q (.bin .lss .no true (.t 92) (.k (.sc (.int .i64 0))))⟩,
  ⟨(some 94), .always, .q (.mv (.t 93))⟩,
  ⟨(some 95), (.on 94 false), .q (.fa 4 (.t 3))⟩,
  ⟨(some 96), (.on 94 false), .q (.load none (.t 95))⟩,
  ⟨(some 97), (.on 94 false), .q (.fa 5 (.t 3))⟩,
  ⟨(some 98), (.on 94 false), .q (.load none (.t 97))⟩,
  ⟨(some 99), (.on 94 false), .q (.bin .gtr .no false (.t 96) (.t 98))⟩,
  ⟨(some 100), .always, .q (.pick (.t 94) (.k (.sc (.bool true))) (.t 99))⟩,
  ⟨(some 101), .always, .q (.mv (.t 100))⟩,
  ⟨(some 102), (.on 101 false), .q (.fa 5 (.t 3))⟩,
  ⟨(some 103), (.on 101 false), .q (.load none (.t 102))⟩,
  ⟨(some 104), (.on 101 false), .q (.mv (.t 11))⟩,
  ⟨(some 105), (.on 101 false), .q (.bin .gtr .no false (.t 103) (.t 104))⟩,
  ⟨(some 106), .always, .q (.pick (.t 101) (.k (.sc (.bool true))) (.t 105))⟩])
  (.cond (.t 106) (.seq (.reg [4, 5] true [⟨(some 107), .always, .q (.load none (.k (.gl 5)))⟩,
  ⟨(some 4), .always, .q (.mv (.k (.sc (.int .i64 0))))⟩,
  ⟨(some 5), .always, .q (.mv (.t 107))⟩])
  .ret)
  .skip))
  (.seq (.reg [12] false [⟨(some 108), .always, .q (.fa 5 (.t 3))⟩,
  ⟨(some 109), .always, .q (.load none (.t 108))⟩,
  ⟨(some 110), .always, .q (.fa 4 (.t 3))⟩,
  ⟨(some 111), .always, .q (.load none (.t 110))⟩,
  ⟨(some 112), .always, .q (.bin .sub .no false (.t 109) (.t 111))⟩,
  ⟨(some 113), .always, .q (.mv (.t 9))⟩,
  ⟨(some 114), .always, .q (.bin .mul .no false (.t 112) (.t 113))⟩,
  ⟨(some 115), .always, .q (.mx true [(.t 114), (.k (.sc (.int .i64 1)))])⟩,
  ⟨(some 12), .always, .q (.mv (.t 115))⟩])
  (.seq (.seq (.reg [12, 117] false [⟨(some 116), .always, .q (.mv (.t 12))⟩,
  ⟨(some 117), .always, .q (.bin .gtr .no true (.t 116) (.k (.sc (.int .i64 1024))))⟩])
  (.cond (.t 117) (.seq (.reg [4, 5] true [⟨(some 118), .always, .q (.load none (.k (.gl 6)))⟩,
  ⟨(some 4), .always, .q (.mv (.k (.sc (.int .i64 0))))⟩,
  ⟨(some 5), .always, .q (.mv (.t 118))⟩])
  .ret)
  .skip))
  (.seq (.reg [4, 5] false [⟨(some 119), .always, .q (.mv (.t 12))⟩,
  ⟨(some 4), .always, .q (.mv (.t 119))⟩,
  ⟨(some 5), .always, .q (.mv (.k (.sc .nilIface)))⟩])
  .ret))))))))))))
/-! 40 lodge/lodgeref.Bare: 1 params, 1 results, 5 -/
def x40 : XC := (.seq (.reg [0, 2] false [⟨(some 2), .always, .e (.new 2 43 true [(.sc (.int .i64 0)), (.sc (.bool false)), (.sc (.int .i64 0))])⟩])
  (.seq (.reg [2] false [⟨(some 3), .always, .q (.mv (.t 0))⟩,
  ⟨(some 4), .always, .q (.build [(.sc (.int .i64 0)), (.sc (.bool false)), (.sc (.int .i64 0))] [(0, 1, (.t 3))])⟩,
  ⟨none, .always, .e (.sto 3 (.t 2) (.t 4))⟩])
  .ret))
/-! 42 lodge/op.Known: 1 params, 1 results, 9 -/
def x42 : XC := (.seq (.reg [0] false [⟨(some 2), .always, .q (.mv (.k (.sc (.bool false))))⟩])
  (.seq (.reg [2] false [⟨(some 3), .always, .q (.mv (.t 0))⟩,
  ⟨(some 4), .always, .q (.bin .geq .no true (.t 3) (.k (.sc (.int .i64 4))))⟩,
  ⟨(some 5), .always, .q (.mv (.t 4))⟩,
  ⟨(some 6), (.on 5 true), .q (.mv (.t 0))⟩,
  ⟨(some 7), (.on 5 true), .q (.bin .leq .no true (.t 6) (.k (.sc (.int .i64 21))))⟩,
  ⟨(some 8), .always, .q (.pick (.t 5) (.t 7) (.k (.sc (.bool false))))⟩,
  ⟨(some 2), .always, .q (.mv (.t 8))⟩])
  .ret))
/-! 43 lodge/op.Result: 3 params, 2 results, 104 -/
def x43 : XC := (.seq (.reg [0, 1, 2, 6] false [⟨(some 6), .always, .e (.new 6 26 true [(.sc (.slice none 0 0)), (.sc (.bool false))])⟩,
  ⟨(some 7), .always, .q (.mv (.k (.sc .nilIface)))⟩])
  (.seq (.seq (.reg [0, 1, 2, 6, 10] false [⟨(some 8), .always, .q (.mv (.t 0))⟩,
  ⟨(some 9), .always, .call (.k (.fn 42 [] [])) [(.t 8)]⟩,
  ⟨(some 10), .always, .q (.not (.t 9))⟩])
  (.cond (.t 10) (.seq (.regD [6, 7] [0, 0, 1, 7] [⟨(some 11), .always, .q (.build [(.sc (.slice none 0 0)), (.sc (.bool false))] [])⟩,
  ⟨(some 12), .always, .q (.load none (.k (.gl 3)))⟩,
  ⟨none, .always, .e (.sto 2 (.t 6) (.t 11))⟩,
  ⟨(some 7), .always, .q (.mv (.t 12))⟩])
  .ret)
  .skip))
  (.seq (.seq (.reg [0, 1, 2, 6, 28] false [⟨(some 13), .always, .q (.mv (.t 2))⟩,
  ⟨(some 14), .always, .q (.lenL (.t 13))⟩,
  ⟨(some 15), .always, .q (.mv (.t 0))⟩,
  ⟨(some 16), .always, .call (.k (.fn 58 [] [])) [(.t 15)]⟩,
  ⟨(some 17), .always, .q (.bin .neq .no false (.t 14) (.t 16))⟩,
  ⟨(some 18), .always, .q (.mv (.t 17))⟩,
  ⟨(some 19), (.on 18 false), .q (.mv (.t 0))⟩,
  ⟨(some 20), (.on 18 false), .q (.bin .neq .no true (.t 19) (.k (.sc (.int .i64 18))))⟩,
  ⟨(some 21), (.on 18 false), .q (.mv (.t 20))⟩,
  ⟨(some 22), (.on 21 true), .q (.mv (.t 1))⟩,
  ⟨(some 23), (.on 21 true), .q (.lenL (.t 22))⟩,
  ⟨(some 24), (.on 21 true), .q (.mv (.t 0))⟩,
  ⟨(some 25), (.on 21 true), .call (.k (.fn 59 [] [])) [(.t 24)]⟩,
  ⟨(some 26), (.on 21 true), .q (.bin .neq .no false (.t 23) (.t 25))⟩,
  ⟨(some 27), (.on 18 false), .q (.pick (.t 21) (.t 26) (.k (.sc (.bool false))))⟩,
  ⟨(some 28), .always, .q (.pick (.t 18) (.k (.sc (.bool true))) (.t 27))⟩])
  (.cond (.t 28) (.seq (.regD [6, 7] [0, 0, 1, 7] [⟨(some 29), .always, .q (.build [(.sc (.slice none 0 0)), (.sc (.bool false))] [])⟩,
  ⟨(some 30), .always, .q (.load none (.k (.gl 4)))⟩,
  ⟨none, .always, .e (.sto 2 (.t 6) (.t 29))⟩,
  ⟨(some 7), .always, .q (.mv (.t 30))⟩])
  .ret)
  .skip))
  (.seq (.seq (.reg [0, 1, 2, 6, 31] false [⟨(some 31), .always, .q (.mv (.t 0))⟩])
  (.block 0 (.seq (.reg [0, 1, 2, 6, 31, 32] false [⟨(some 33), .always, .q (.bin .eql .no true (.t 31) (.k (.sc (.int .i64 12))))⟩,
  ⟨(some 32), .always, .q (.mv (.t 33))⟩])
  (.cond (.t 32) (.seq (.regD [6, 7] [0, 1, 3, 0, 8, 24, 0, 64, 192, 0, 512, 1536, 4095, 8191, 8191, 32767, 65535] [⟨(some 34), .always, .q (.mv (.t 1))⟩,
  ⟨(some 35), .always, .q (.iaS 1 (.t 34) (.k (.sc (.int .i64 0))))⟩,
  ⟨(some 36), .always, .q (.load none (.t 35))⟩,
  ⟨(some 37), .always, .q (.mv (.t 1))⟩,
  ⟨(some 38), .always, .q (.iaS 1 (.t 37) (.k (.sc (.int .i64 1))))⟩,
  ⟨(some 39), .always, .q (.load none (.t 38))⟩,
  ⟨(some 40), .always, .q (.mv (.t 2))⟩,
  ⟨(some 41), .always, .q (.iaS 2 (.t 40) (.k (.sc (.int .i64 0))))⟩,
  ⟨(some 42), .always, .q (.load (some 2) (.t 41))⟩,
  ⟨(some 43), .always, .q (.mv (.t 2))⟩,
  ⟨(some 44), .always, .q (.iaS 2 (.t 43) (.k (.sc (.int .i64 1))))⟩,
  ⟨(some 45), .always, .q (.load (some 2) (.t 44))⟩,
  ⟨(some 46), .always, .call (.k (.fn 60 [] [])) [(.t 36), (.t 39), (.t 42), (.t 45)]⟩,
  ⟨(some 47), .always, .q (.ext (.t 46) 0)⟩,
  ⟨(some 48), .always, .q (.ext (.t 46) 1)⟩,
  ⟨none, .always, .e (.sto 2 (.t 6) (.t 47))⟩,
  ⟨(some 7), .always, .q (.mv (.t 48))⟩])
  .ret)
  (.seq (.reg [0, 1, 2, 6, 31, 49] false [⟨(some 50), .always, .q (.bin .eql .no true (.t 31) (.k (.sc (.int .i64 13))))⟩,
  ⟨(some 49), .always, .q (.mv (.t 50))⟩])
  (.cond (.t 49) (.seq (.regD [6, 7] [0, 0, 2, 6, 0, 16, 48, 127, 255, 255, 1023, 2047] [⟨(some 51), .always, .q (.mv (.t 1))⟩,
  ⟨(some 52), .always, .q (.mv (.t 2))⟩,
  ⟨(some 53), .always, .q (.iaS 2 (.t 52) (.k (.sc (.int .i64 0))))⟩,
  ⟨(some 54), .always, .q (.load (some 2) (.t 53))⟩,
  ⟨(some 55), .always, .q (.mv (.t 2))⟩,
  ⟨(some 56), .always, .q (.iaS 2 (.t 55) (.k (.sc (.int .i64 1))))⟩,
  ⟨(some 57), .always, .q (.load (some 2) (.t 56))⟩,
  ⟨(some 58), .always, .call (.k (.fn 61 [] [])) [(.t 51), (.t 54), (.t 57)]⟩,
  ⟨(some 59), .always, .q (.ext (.t 58) 0)⟩,
  ⟨(some 60), .always, .q (.ext (.t 58) 1)⟩,
  ⟨none, .always, .e (.sto 2 (.t 6) (.t 59))⟩,
  ⟨(some 7), .always, .q (.mv (.t 60))⟩])
  .ret)
  (.seq (.seq (.reg [0, 1, 2, 6, 31, 61] false [⟨(some 62), .always, .q (.bin .eql .no true (.t 31) (.k (.sc (.int .i64 14))))⟩,
  ⟨(some 61), .always, .q (.mv (.t 62))⟩])
  (.cond (.t 61) .skip
  (.reg [0, 1, 2, 6, 31, 61] false [⟨(some 63), .always, .q (.bin .eql .no true (.t 31) (.k (.sc (.int .i64 15))))⟩,
  ⟨(some 61), .always, .q (.mv (.t 63))⟩])))
  (.cond (.t 61) (.seq (.reg [6, 7] false [⟨(some 64), .always, .q (.mv (.t 1))⟩,
  ⟨(some 65), .always, .q (.mv (.t 2))⟩,
  ⟨(some 66), .always, .q (.iaS 2 (.t 65) (.k (.sc (.int .i64 0))))⟩,
  ⟨(some 67), .always, .q (.load (some 2) (.t 66))⟩,
  ⟨(some 68), .always, .call (.k (.fn 62 [] [])) [(.t 64), (.t 67)]⟩,
  ⟨(some 69), .always, .q (.ext (.t 68) 0)⟩,
  ⟨(some 70), .always, .q (.ext (.t 68) 1)⟩,
  ⟨none, .always, .e (.sto 2 (.t 6) (.t 69))⟩,
  ⟨(some 7), .always, .q (.mv (.t 70))⟩])
  .ret)
  (.seq (.seq (.reg [0, 1, 2, 6, 31, 71] false [⟨(some 72), .always, .q (.bin .eql .no true (.t 31) (.k (.sc (.int .i64 16))))⟩,
  ⟨(some 71), .always, .q (.mv (.t 72))⟩])
  (.cond (.t 71) .skip
  (.seq (.reg [0, 1, 2, 6, 31, 71] false [⟨(some 73), .always, .q (.bin .eql .no true (.t 31) (.k (.sc (.int .i64 19))))⟩,
  ⟨(some 71), .always, .q (.mv (.t 73))⟩])
  (.cond (.t 71) .skip
  (.seq (.reg [0, 1, 2, 6, 31, 71] false [⟨(some 74), .always, .q (.bin .eql .no true (.t 31) (.k (.sc (.int .i64 20))))⟩,
  ⟨(some 71), .always, .q (.mv (.t 74))⟩])
  (.cond (.t 71) .skip
  (.reg [0, 1, 2, 6, 31, 71] false [⟨(some 75), .always, .q (.bin .eql .no true (.t 31) (.k (.sc (.int .i64 17))))⟩,
  ⟨(some 71), .always, .q (.mv (.t 75))⟩])))))))
  (.cond (.t 71) (.seq (.reg [6, 7] false [⟨(some 76), .always, .q (.mv (.t 0))⟩,
  ⟨(some 77), .always, .q (.mv (.t 2))⟩,
  ⟨(some 78), .always, .call (.k (.fn 63 [] [])) [(.t 76), (.t 77)]⟩,
  ⟨(some 79), .always, .q (.ext (.t 78) 0)⟩,
  ⟨(some 80), .always, .q (.ext (.t 78) 1)⟩,
  ⟨none, .always, .e (.sto 2 (.t 6) (.t 79))⟩,
  ⟨(some 7), .always, .q (.mv (.t 80))⟩])
  .ret)
  (.seq (.reg [0, 1, 2, 6, 31, 81] false [⟨(some 82), .always, .q (.bin .eql .no true (.t 31) (.k (.sc (.int .i64 18))))⟩,
  ⟨(some 81), .always, .q (.mv (.t 82))⟩])
  (.cond (.t 81) (.seq (.reg [6, 7] false [⟨(some 83), .always, .q (.mv (.t 1))⟩,
  ⟨(some 84), .always, .q (.mv (.t 2))⟩,
  ⟨(some 85), .always, .q (.iaS 2 (.t 84) (.k (.sc (.int .i64 0))))⟩,
  ⟨(some 86), .always, .q (.load (some 2) (.t 85))⟩,
  ⟨(some 87), .always, .call (.k (.fn 64 [] [])) [(.t 83), (.t 86)]⟩,
  ⟨(some 88), .always, .q (.ext (.t 87) 0)⟩,
  ⟨(some 89), .always, .q (.ext (.t 87) 1)⟩,
  ⟨none, .always, .e (.sto 2 (.t 6) (.t 88))⟩,
  ⟨(some 7), .always, .q (.mv (.t 89))⟩])
  .ret)
  (.seq (.reg [0, 1, 2, 6, 90] false [⟨(some 91), .always, .q (.bin .eql .no true (.t 31) (.k (.sc (.int .i64 21))))⟩,
  ⟨(some 90), .always, .q (.mv (.t 91))⟩])
  (.cond (.t 90) (.seq (.reg [6, 7] false [⟨(some 92), .always, .q (.mv (.t 2))⟩,
  ⟨(some 93), .always, .q (.iaS 2 (.t 92) (.k (.sc (.int .i64 0))))⟩,
  ⟨(some 94), .always, .q (.load (some 2) (.t 93))⟩,
  ⟨(some 95), .always, .call (.k (.fn 65 [] [])) [(.t 94)]⟩,
  ⟨(some 96), .always, .q (.ext (.t 95) 0)⟩,
  ⟨(some 97), .always, .q (.ext (.t 95) 1)⟩,
  ⟨none, .always, .e (.sto 2 (.t 6) (.t 96))⟩,
  ⟨(some 7), .always, .q (.mv (.t 97))⟩])
  .ret)
  .skip))))))))))))))
  (.seq (.reg [6, 7] false [⟨(some 98), .always, .q (.mv (.t 0))⟩,
  ⟨(some 99), .always, .q (.mv (.t 1))⟩,
  ⟨(some 100), .always, .q (.mv (.t 2))⟩,
  ⟨(some 101), .always, .call (.k (.fn 66 [] [])) [(.t 98), (.t 99), (.t 100)]⟩,
  ⟨(some 102), .always, .q (.ext (.t 101) 0)⟩,
  ⟨(some 103), .always, .q (.ext (.t 101) 1)⟩,
  ⟨none, .always, .e (.sto 2 (.t 6) (.t 102))⟩,
  ⟨(some 7), .always, .q (.mv (.t 103))⟩])
  .ret)))))
/-! 46 lodge/tens.Valid: 1 params, 1 results, 41 -/
def b46_0 : XC := (.seq (.reg [1, 22, 23, 24, 25] false [⟨(some 25), .always, .q (.bin .lss .no false (.t 24) (.t 23))⟩])
  (.seq (.cond (.t 25) .skip
  (.exit 0))
  (.seq (.block 1 (.seq (.reg [1, 4, 5, 22, 23, 24] false [⟨(some 26), .always, .q (.mv (.t 24))⟩,
  ⟨(some 27), .always, .q (.iaS 1 (.t 22) (.t 24))⟩,
  ⟨(some 28), .always, .q (.load none (.t 27))⟩,
  ⟨(some 4), .always, .q (.mv (.t 26))⟩,
  ⟨(some 5), .always, .q (.mv (.t 28))⟩])
  (.seq (.reg [1, 4, 22, 23, 24, 34] false [⟨(some 29), .always, .q (.mv (.t 5))⟩,
  ⟨(some 30), .always, .q (.fa 0 (.t 1))⟩,
  ⟨(some 31), .always, .q (.fa 1 (.t 30))⟩,
  ⟨(some 32), .always, .q (.load none (.t 31))⟩,
  ⟨(some 33), .always, .call (.k (.fn 69 [] [])) [(.t 29), (.t 32)]⟩,
  ⟨(some 34), .always, .q (.not (.t 33))⟩])
  (.cond (.t 34) (.seq (.reg [2] false [⟨(some 35), .always, .q (.mv (.t 4))⟩,
  ⟨(some 36), .always, .q (.load none (.k (.gl 5)))⟩,
  ⟨(some 37), .always, .q (.build [(.sc (.int .i64 0)), (.sc .nilIface)] [(0, 1, (.t 35)), (1, 1, (.t 36))])⟩,
  ⟨(some 38), .always, .e (.box 38 93 false 2 (.t 37))⟩,
  ⟨(some 39), .always, .q (.ifc 91 (.t 38))⟩,
  ⟨(some 2), .always, .q (.mv (.t 39))⟩])
  .ret)
  .skip))))
  (.reg [1, 22, 23, 24] false [⟨(some 40), .always, .q (.bin .add .no true (.t 24) (.k (.sc (.int .i64 1))))⟩,
  ⟨(some 24), .always, .q (.mv (.t 40))⟩]))))
def l46_0 : XC := b46_0
theorem xl46_0 {E : Env} {Q : AX → St → Prop} {s : St} : xp E l46_0 s Q = xp E b46_0 s Q := rfl
def x46 : XC := (.seq (.reg [1] false [⟨(some 1), .always, .e (.box 1 28 true 3 (.t 0))⟩,
  ⟨(some 2), .always, .q (.mv (.k (.sc .nilIface)))⟩])
  (.seq (.seq (.reg [1, 3] false [⟨(some 6), .always, .q (.fa 0 (.t 1))⟩,
  ⟨(some 7), .always, .q (.load (some 2) (.t 6))⟩,
  ⟨(some 8), .always, .call (.k (.fn 51 [] [])) [(.t 7)]⟩,
  ⟨(some 3), .always, .q (.mv (.t 8))⟩])
  (.seq (.reg [1, 3, 10] false [⟨(some 9), .always, .q (.mv (.t 3))⟩,
  ⟨(some 10), .always, .q (.bin .neq .iface true (.t 9) (.k (.sc .nilIface)))⟩])
  (.cond (.t 10) (.seq (.reg [2] false [⟨(some 11), .always, .q (.mv (.t 3))⟩,
  ⟨(some 2), .always, .q (.mv (.t 11))⟩])
  .ret)
  .skip)))
  (.seq (.seq (.reg [1, 19] true [⟨(some 12), .always, .q (.fa 2 (.t 1))⟩,
  ⟨(some 13), .always, .q (.load none (.t 12))⟩,
  ⟨(some 14), .always, .q (.lenL (.t 13))⟩,
  ⟨(some 15), .always, .q (.fa 0 (.t 1))⟩,
  ⟨(some 16), .always, .q (.fa 0 (.t 15))⟩,
  ⟨(some 17), .always, .q (.load none (.t 16))⟩,
  ⟨(some 18), .always, .call (.k (.fn 50 [] [])) [(.t 17)]⟩,
  ⟨(some 19), .always, .q (.bin .neq .no false (.t 14) (.t 18))⟩])
  (.cond (.t 19) (.seq (.reg [2] false [⟨(some 20), .always, .q (.load none (.k (.gl 4)))⟩,
  ⟨(some 2), .always, .q (.mv (.t 20))⟩])
  .ret)
  .skip))
  (.seq (.seq (.reg [1, 22, 23, 24] false [⟨(some 21), .always, .q (.fa 2 (.t 1))⟩,
  ⟨(some 22), .always, .q (.load none (.t 21))⟩,
  ⟨(some 23), .always, .q (.lenL (.t 22))⟩,
  ⟨(some 24), .always, .q (.mv (.k (.sc (.int .i64 0))))⟩])
  (.block 0 (.loop l46_0)))
  (.seq (.reg [2] false [⟨(some 2), .always, .q (.mv (.k (.sc .nilIface)))⟩])
  .ret)))))
/-! 47 lodge/shape.Clone: 1 params, 1 results, 9 -/
def x47 : XC := (.seq (.reg [1, 2] false [⟨(some 1), .always, .e (.box 1 26 true 2 (.t 0))⟩,
  ⟨(some 2), .always, .e (.new 2 26 true [(.sc (.slice none 0 0)), (.sc (.bool false))])⟩])
  (.seq (.regD [2] [0, 1, 3, 0, 8, 31, 63] [⟨(some 3), .always, .q (.fa 0 (.t 1))⟩,
  ⟨(some 4), .always, .q (.load none (.t 3))⟩,
  ⟨(some 5), .always, .call (.k (.fn 70 [] [])) [(.t 4)]⟩,
  ⟨(some 6), .always, .q (.fa 1 (.t 1))⟩,
  ⟨(some 7), .always, .q (.load none (.t 6))⟩,
  ⟨(some 8), .always, .q (.build [(.sc (.slice none 0 0)), (.sc (.bool false))] [(0, 1, (.t 5)), (1, 1, (.t 7))])⟩,
  ⟨none, .always, .e (.sto 2 (.t 2) (.t 8))⟩])
  .ret))
/-! 48 lodge/lodgesee.sentinel: 1 params, 1 results, 20 -/
def b48_0 : XC := (.seq (.seq (.reg [0, 3, 4, 9] false [⟨(some 6), .always, .q (.mv (.t 4))⟩,
  ⟨(some 7), .always, .q (.mv (.t 3))⟩,
  ⟨(some 8), .always, .q (.lenL (.t 7))⟩,
  ⟨(some 9), .always, .q (.bin .lss .no false (.t 6) (.t 8))⟩])
  (.cond (.t 9) .skip
  (.exit 0)))
  (.seq (.block 1 (.seq (.reg [0, 3, 4, 17] false [⟨(some 12), .always, .q (.mv (.t 0))⟩,
  ⟨(some 13), .always, .q (.mv (.t 3))⟩,
  ⟨(some 14), .always, .q (.mv (.t 4))⟩,
  ⟨(some 15), .always, .q (.iaS 1 (.t 13) (.t 14))⟩,
  ⟨(some 16), .always, .q (.load none (.t 15))⟩,
  ⟨(some 17), .always, .call (.k (.fn 72 [] [])) [(.t 12), (.t 16)]⟩])
  (.cond (.t 17) (.seq (.reg [2] false [⟨(some 18), .always, .q (.mv (.t 4))⟩,
  ⟨(some 19), .always, .q (.bin .add .no true (.k (.sc (.int .i64 101))) (.t 18))⟩,
  ⟨(some 2), .always, .q (.mv (.t 19))⟩])
  .ret)
  .skip)))
  (.reg [0, 3, 4] false [⟨(some 10), .always, .q (.mv (.t 4))⟩,
  ⟨(some 11), .always, .q (.bin .add .no true (.t 10) (.k (.sc (.int .i64 1))))⟩,
  ⟨(some 4), .always, .q (.mv (.t 11))⟩])))
def l48_0 : XC := b48_0
theorem xl48_0 {E : Env} {Q : AX → St → Prop} {s : St} : xp E l48_0 s Q = xp E b48_0 s Q := rfl
def x48 : XC := (.seq (.reg [0] false [⟨(some 2), .always, .q (.mv (.k (.sc (.int .i64 0))))⟩])
  (.seq (.reg [0, 3] false [⟨(some 5), .always, .call (.k (.fn 71 [] [])) []⟩,
  ⟨(some 3), .always, .q (.mv (.t 5))⟩])
  (.seq (.seq (.reg [0, 3, 4] false [⟨(some 4), .always, .q (.mv (.k (.sc (.int .i64 0))))⟩])
  (.block 0 (.loop l48_0)))
  (.seq (.reg [2] false [⟨(some 2), .always, .q (.mv (.k (.sc (.int .i64 (-1)))))⟩])
  .ret))))
/-! 49 lodge/lodgeref3.ValidDesc: 1 params, 1 results, 39 -/
def b49_0 : XC := (.seq (.seq (.reg [1, 3, 4, 13] false [⟨(some 9), .always, .q (.mv (.t 4))⟩,
  ⟨(some 10), .always, .q (.fa 0 (.t 1))⟩,
  ⟨(some 11), .always, .q (.load none (.t 10))⟩,
  ⟨(some 12), .always, .q (.lenL (.t 11))⟩,
  ⟨(some 13), .always, .q (.bin .lss .no false (.t 9) (.t 12))⟩])
  (.cond (.t 13) .skip
  (.exit 0)))
  (.seq (.block 1 (.seq (.seq (.reg [1, 3, 4, 29] false [⟨(some 16), .always, .q (.fa 0 (.t 1))⟩,
  ⟨(some 17), .always, .q (.load none (.t 16))⟩,
  ⟨(some 18), .always, .q (.mv (.t 4))⟩,
  ⟨(some 19), .always, .q (.iaS 1 (.t 17) (.t 18))⟩,
  ⟨(some 20), .always, .q (.load none (.t 19))⟩,
  ⟨(some 21), .always, .q (.bin .lss .no true (.t 20) (.k (.sc (.int .i64 1))))⟩,
  ⟨(some 22), .always, .q (.mv (.t 21))⟩,
  ⟨(some 23), (.on 22 false), .q (.fa 0 (.t 1))⟩,
  ⟨(some 24), (.on 22 false), .q (.load none (.t 23))⟩,
  ⟨(some 25), (.on 22 false), .q (.mv (.t 4))⟩,
  ⟨(some 26), (.on 22 false), .q (.iaS 1 (.t 24) (.t 25))⟩,
  ⟨(some 27), (.on 22 false), .q (.load none (.t 26))⟩,
  ⟨(some 28), (.on 22 false), .q (.bin .gtr .no true (.t 27) (.k (.sc (.int .i64 256))))⟩,
  ⟨(some 29), .always, .q (.pick (.t 22) (.k (.sc (.bool true))) (.t 28))⟩])
  (.cond (.t 29) (.seq (.reg [2] false [⟨(some 2), .always, .q (.mv (.k (.sc (.int .i64 102))))⟩])
  .ret)
  .skip))
  (.reg [1, 3, 4] false [⟨(some 30), .always, .q (.mv (.t 3))⟩,
  ⟨(some 31), .always, .q (.fa 0 (.t 1))⟩,
  ⟨(some 32), .always, .q (.load none (.t 31))⟩,
  ⟨(some 33), .always, .q (.mv (.t 4))⟩,
  ⟨(some 34), .always, .q (.iaS 1 (.t 32) (.t 33))⟩,
  ⟨(some 35), .always, .q (.load none (.t 34))⟩,
  ⟨(some 36), .always, .q (.bin .mul .no false (.t 30) (.t 35))⟩,
  ⟨(some 3), .always, .q (.mv (.t 36))⟩])))
  (.reg [1, 3, 4] false [⟨(some 14), .always, .q (.mv (.t 4))⟩,
  ⟨(some 15), .always, .q (.bin .add .no true (.t 14) (.k (.sc (.int .i64 1))))⟩,
  ⟨(some 4), .always, .q (.mv (.t 15))⟩])))
def l49_0 : XC := b49_0
theorem xl49_0 {E : Env} {Q : AX → St → Prop} {s : St} : xp E l49_0 s Q = xp E b49_0 s Q := rfl
def x49 : XC := (.seq (.reg [1] false [⟨(some 1), .always, .e (.box 1 26 true 2 (.t 0))⟩,
  ⟨(some 2), .always, .q (.mv (.k (.sc (.int .i64 0))))⟩])
  (.seq (.seq (.reg [1, 8] false [⟨(some 5), .always, .q (.fa 0 (.t 1))⟩,
  ⟨(some 6), .always, .q (.load none (.t 5))⟩,
  ⟨(some 7), .always, .q (.lenL (.t 6))⟩,
  ⟨(some 8), .always, .q (.bin .gtr .no true (.t 7) (.k (.sc (.int .i64 4))))⟩])
  (.cond (.t 8) (.seq (.reg [2] false [⟨(some 2), .always, .q (.mv (.k (.sc (.int .i64 104))))⟩])
  .ret)
  .skip))
  (.seq (.reg [1, 3] false [⟨(some 3), .always, .q (.mv (.k (.sc (.int .i64 1))))⟩])
  (.seq (.seq (.reg [1, 3, 4] false [⟨(some 4), .always, .q (.mv (.k (.sc (.int .i64 0))))⟩])
  (.block 0 (.loop l49_0)))
  (.seq (.seq (.reg [38] false [⟨(some 37), .always, .q (.mv (.t 3))⟩,
  ⟨(some 38), .always, .q (.bin .gtr .no true (.t 37) (.k (.sc (.int .i64 16384))))⟩])
  (.cond (.t 38) (.seq (.reg [2] false [⟨(some 2), .always, .q (.mv (.k (.sc (.int .i64 104))))⟩])
  .ret)
  .skip))
  (.seq (.reg [2] false [⟨(some 2), .always, .q (.mv (.k (.sc (.int .i64 0))))⟩])
  .ret))))))
/-! 50 lodge/shape.Elems: 1 params, 1 results, 20 -/
def b50_0 : XC := (.seq (.reg [3, 9, 10, 11, 12] false [⟨(some 12), .always, .q (.bin .lss .no false (.t 11) (.t 10))⟩])
  (.seq (.cond (.t 12) .skip
  (.exit 0))
  (.seq (.block 1 (.seq (.reg [3, 5, 9, 10, 11] false [⟨(some 13), .always, .q (.iaS 1 (.t 9) (.t 11))⟩,
  ⟨(some 14), .always, .q (.load none (.t 13))⟩,
  ⟨(some 5), .always, .q (.mv (.t 14))⟩])
  (.reg [3, 9, 10, 11] false [⟨(some 15), .always, .q (.mv (.t 3))⟩,
  ⟨(some 16), .always, .q (.mv (.t 5))⟩,
  ⟨(some 17), .always, .q (.bin .mul .no false (.t 15) (.t 16))⟩,
  ⟨(some 3), .always, .q (.mv (.t 17))⟩])))
  (.reg [3, 9, 10, 11] false [⟨(some 18), .always, .q (.bin .add .no true (.t 11) (.k (.sc (.int .i64 1))))⟩,
  ⟨(some 11), .always, .q (.mv (.t 18))⟩]))))
def l50_0 : XC := b50_0
theorem xl50_0 {E : Env} {Q : AX → St → Prop} {s : St} : xp E l50_0 s Q = xp E b50_0 s Q := rfl
def x50 : XC := (.seq (.reg [0] false [⟨(some 2), .always, .q (.mv (.k (.sc (.int .i64 0))))⟩])
  (.seq (.seq (.reg [0, 8] false [⟨(some 6), .always, .q (.mv (.t 0))⟩,
  ⟨(some 7), .always, .call (.k (.fn 73 [] [])) [(.t 6)]⟩,
  ⟨(some 8), .always, .q (.not (.t 7))⟩])
  (.cond (.t 8) (.seq (.reg [2] false [⟨(some 2), .always, .q (.mv (.k (.sc (.int .i64 0))))⟩])
  .ret)
  .skip))
  (.seq (.reg [0, 3] false [⟨(some 3), .always, .q (.mv (.k (.sc (.int .i64 1))))⟩])
  (.seq (.seq (.reg [3, 9, 10, 11] false [⟨(some 9), .always, .q (.mv (.t 0))⟩,
  ⟨(some 10), .always, .q (.lenL (.t 9))⟩,
  ⟨(some 11), .always, .q (.mv (.k (.sc (.int .i64 0))))⟩])
  (.block 0 (.loop l50_0)))
  (.seq (.reg [2] false [⟨(some 19), .always, .q (.mv (.t 3))⟩,
  ⟨(some 2), .always, .q (.mv (.t 19))⟩])
  .ret)))))
/-! 51 lodge/shape.Valid: 1 params, 1 results, 42 -/
def b51_0 : XC := (.seq (.reg [1, 3, 14, 15, 16, 17] false [⟨(some 17), .always, .q (.bin .lss .no false (.t 16) (.t 15))⟩])
  (.seq (.cond (.t 17) .skip
  (.exit 0))
  (.seq (.block 1 (.seq (.reg [1, 3, 5, 14, 15, 16] false [⟨(some 18), .always, .q (.iaS 1 (.t 14) (.t 16))⟩,
  ⟨(some 19), .always, .q (.load none (.t 18))⟩,
  ⟨(some 5), .always, .q (.mv (.t 19))⟩])
  (.seq (.reg [1, 3, 14, 15, 16, 25] false [⟨(some 20), .always, .q (.mv (.t 5))⟩,
  ⟨(some 21), .always, .q (.bin .lss .no true (.t 20) (.k (.sc (.int .i64 1))))⟩,
  ⟨(some 22), .always, .q (.mv (.t 21))⟩,
  ⟨(some 23), (.on 22 false), .q (.mv (.t 5))⟩,
  ⟨(some 24), (.on 22 false), .q (.bin .gtr .no true (.t 23) (.k (.sc (.int .i64 256))))⟩,
  ⟨(some 25), .always, .q (.pick (.t 22) (.k (.sc (.bool true))) (.t 24))⟩])
  (.cond (.t 25) (.seq (.reg [2] false [⟨(some 26), .always, .q (.load none (.k (.gl 5)))⟩,
  ⟨(some 2), .always, .q (.mv (.t 26))⟩])
  .ret)
  .skip))))
  (.reg [1, 3, 14, 15, 16] false [⟨(some 27), .always, .q (.bin .add .no true (.t 16) (.k (.sc (.int .i64 1))))⟩,
  ⟨(some 16), .always, .q (.mv (.t 27))⟩]))))
def l51_0 : XC := b51_0
theorem xl51_0 {E : Env} {Q : AX → St → Prop} {s : St} : xp E l51_0 s Q = xp E b51_0 s Q := rfl
def b51_1 : XC := (.seq (.reg [3, 29, 30, 31, 32] false [⟨(some 32), .always, .q (.bin .lss .no false (.t 31) (.t 30))⟩])
  (.seq (.cond (.t 32) .skip
  (.exit 2))
  (.seq (.block 3 (.seq (.reg [3, 7, 29, 30, 31] false [⟨(some 33), .always, .q (.iaS 1 (.t 29) (.t 31))⟩,
  ⟨(some 34), .always, .q (.load none (.t 33))⟩,
  ⟨(some 7), .always, .q (.mv (.t 34))⟩])
  (.seq (.reg [3, 29, 30, 31] false [⟨(some 35), .always, .q (.mv (.t 3))⟩,
  ⟨(some 36), .always, .q (.mv (.t 7))⟩,
  ⟨(some 37), .always, .q (.bin .mul .no false (.t 35) (.t 36))⟩,
  ⟨(some 3), .always, .q (.mv (.t 37))⟩])
  (.seq (.reg [3, 29, 30, 31, 39] false [⟨(some 38), .always, .q (.mv (.t 3))⟩,
  ⟨(some 39), .always, .q (.bin .gtr .no true (.t 38) (.k (.sc (.int .i64 16384))))⟩])
  (.cond (.t 39) (.seq (.reg [2] false [⟨(some 40), .always, .q (.load none (.k (.gl 0)))⟩,
  ⟨(some 2), .always, .q (.mv (.t 40))⟩])
  .ret)
  .skip)))))
  (.reg [3, 29, 30, 31] false [⟨(some 41), .always, .q (.bin .add .no true (.t 31) (.k (.sc (.int .i64 1))))⟩,
  ⟨(some 31), .always, .q (.mv (.t 41))⟩]))))
def l51_1 : XC := b51_1
theorem xl51_1 {E : Env} {Q : AX → St → Prop} {s : St} : xp E l51_1 s Q = xp E b51_1 s Q := rfl
def x51 : XC := (.seq (.reg [1] false [⟨(some 1), .always, .e (.box 1 26 true 2 (.t 0))⟩,
  ⟨(some 2), .always, .q (.mv (.k (.sc .nilIface)))⟩])
  (.seq (.seq (.reg [1, 11] false [⟨(some 8), .always, .q (.fa 0 (.t 1))⟩,
  ⟨(some 9), .always, .q (.load none (.t 8))⟩,
  ⟨(some 10), .always, .q (.lenL (.t 9))⟩,
  ⟨(some 11), .always, .q (.bin .gtr .no true (.t 10) (.k (.sc (.int .i64 4))))⟩])
  (.cond (.t 11) (.seq (.reg [2] false [⟨(some 12), .always, .q (.load none (.k (.gl 0)))⟩,
  ⟨(some 2), .always, .q (.mv (.t 12))⟩])
  .ret)
  .skip))
  (.seq (.reg [1, 3] false [⟨(some 3), .always, .q (.mv (.k (.sc (.int .i64 1))))⟩])
  (.seq (.seq (.reg [1, 3, 14, 15, 16] false [⟨(some 13), .always, .q (.fa 0 (.t 1))⟩,
  ⟨(some 14), .always, .q (.load none (.t 13))⟩,
  ⟨(some 15), .always, .q (.lenL (.t 14))⟩,
  ⟨(some 16), .always, .q (.mv (.k (.sc (.int .i64 0))))⟩])
  (.block 0 (.loop l51_0)))
  (.seq (.seq (.reg [3, 29, 30, 31] false [⟨(some 28), .always, .q (.fa 0 (.t 1))⟩,
  ⟨(some 29), .always, .q (.load none (.t 28))⟩,
  ⟨(some 30), .always, .q (.lenL (.t 29))⟩,
  ⟨(some 31), .always, .q (.mv (.k (.sc (.int .i64 0))))⟩])
  (.block 2 (.loop l51_1)))
  (.seq (.reg [2] false [⟨(some 2), .always, .q (.mv (.k (.sc .nilIface)))⟩])
  .ret))))))
/-! 52 lodge/check.view: 2 params, 1 results, 14 -/
def x52 : XC := (.seq (.reg [1, 2] false [⟨(some 2), .always, .e (.box 2 57 true 7 (.t 0))⟩,
  ⟨(some 4), .always, .q (.mv (.k (.sc (.bool false))))⟩])
  (.seq (.reg [4] false [⟨(some 5), .always, .q (.mv (.t 1))⟩,
  ⟨(some 6), .always, .q (.bin .geq .no true (.t 5) (.k (.sc (.int .i64 0))))⟩,
  ⟨(some 7), .always, .q (.mv (.t 6))⟩,
  ⟨(some 8), (.on 7 true), .q (.mv (.t 1))⟩,
  ⟨(some 9), (.on 7 true), .q (.fa 1 (.t 2))⟩,
  ⟨(some 10), (.on 7 true), .q (.load none (.t 9))⟩,
  ⟨(some 11), (.on 7 true), .q (.lenL (.t 10))⟩,
  ⟨(some 12), (.on 7 true), .q (.bin .lss .no false (.t 8) (.t 11))⟩,
  ⟨(some 13), .always, .q (.pick (.t 7) (.t 12) (.k (.sc (.bool false))))⟩,
  ⟨(some 4), .always, .q (.mv (.t 13))⟩])
  .ret))
/-! 54 lodge/lodgeworld.Tensor: 2 params, 1 results, 15 -/
def x54 : XC := (.seq (.reg [1, 2] false [⟨(some 2), .always, .e (.box 2 28 true 3 (.t 0))⟩,
  ⟨(some 4), .always, .q (.mv (.k (.sc (.bool false))))⟩])
  (.seq (.reg [4] false [⟨(some 5), .always, .q (.fa 0 (.t 2))⟩,
  ⟨(some 6), .always, .q (.load (some 2) (.t 5))⟩,
  ⟨(some 7), .always, .call (.k (.fn 38 [] [])) [(.t 6)]⟩,
  ⟨(some 8), .always, .q (.mv (.t 7))⟩,
  ⟨(some 9), (.on 8 true), .q (.fa 2 (.t 2))⟩,
  ⟨(some 10), (.on 8 true), .q (.load none (.t 9))⟩,
  ⟨(some 11), (.on 8 true), .q (.lenL (.t 10))⟩,
  ⟨(some 12), (.on 8 true), .q (.mv (.t 1))⟩,
  ⟨(some 13), (.on 8 true), .q (.bin .leq .no false (.t 11) (.t 12))⟩,
  ⟨(some 14), .always, .q (.pick (.t 8) (.t 13) (.k (.sc (.bool false))))⟩,
  ⟨(some 4), .always, .q (.mv (.t 14))⟩])
  .ret))
/-! 55 lodge/check.data: 1 params, 1 results, 16 -/
def x55 : XC := (.seq (.reg [1] false [⟨(some 1), .always, .e (.box 1 60 true 6 (.t 0))⟩,
  ⟨(some 2), .always, .q (.mv (.k (.sc (.bool false))))⟩])
  (.seq (.reg [2] false [⟨(some 3), .always, .q (.fa 0 (.t 1))⟩,
  ⟨(some 4), .always, .q (.load none (.t 3))⟩,
  ⟨(some 5), .always, .q (.bin .eql .no true (.t 4) (.k (.sc (.int .i64 2))))⟩,
  ⟨(some 6), .always, .q (.mv (.t 5))⟩,
  ⟨(some 7), (.on 6 false), .q (.fa 0 (.t 1))⟩,
  ⟨(some 8), (.on 6 false), .q (.load none (.t 7))⟩,
  ⟨(some 9), (.on 6 false), .q (.bin .eql .no true (.t 8) (.k (.sc (.int .i64 3))))⟩,
  ⟨(some 10), .always, .q (.pick (.t 6) (.k (.sc (.bool true))) (.t 9))⟩,
  ⟨(some 11), .always, .q (.mv (.t 10))⟩,
  ⟨(some 12), (.on 11 false), .q (.fa 0 (.t 1))⟩,
  ⟨(some 13), (.on 11 false), .q (.load none (.t 12))⟩,
  ⟨(some 14), (.on 11 false), .call (.k (.fn 42 [] [])) [(.t 13)]⟩,
  ⟨(some 15), .always, .q (.pick (.t 11) (.k (.sc (.bool true))) (.t 14))⟩,
  ⟨(some 2), .always, .q (.mv (.t 15))⟩])
  .ret))
/-! 56 lodge/check.jump: 2 params, 1 results, 46 -/
def x56 : XC := (.seq (.reg [2, 3] false [⟨(some 2), .always, .e (.box 2 57 true 7 (.t 0))⟩,
  ⟨(some 3), .always, .e (.box 3 60 true 6 (.t 1))⟩,
  ⟨(some 4), .always, .q (.mv (.k (.sc .nilIface)))⟩])
  (.seq (.reg [2, 3, 5, 6] false [⟨(some 5), .always, .q (.mv (.k (.sc (.int .i64 1))))⟩,
  ⟨(some 6), .always, .q (.mv (.k (.sc (.int .i64 0))))⟩])
  (.seq (.seq (.reg [2, 3, 5, 6, 8] false [⟨(some 7), .always, .q (.fa 0 (.t 3))⟩,
  ⟨(some 8), .always, .q (.load none (.t 7))⟩])
  (.block 0 (.seq (.reg [2, 3, 5, 6, 8, 9] false [⟨(some 10), .always, .q (.bin .eql .no true (.t 8) (.k (.sc (.int .i64 23))))⟩,
  ⟨(some 9), .always, .q (.mv (.t 10))⟩])
  (.cond (.t 9) (.reg [2, 3, 5, 6] false [⟨(some 6), .always, .q (.mv (.k (.sc (.int .i64 1))))⟩])
  (.seq (.reg [2, 3, 5, 6, 11] false [⟨(some 12), .always, .q (.bin .eql .no true (.t 8) (.k (.sc (.int .i64 24))))⟩,
  ⟨(some 11), .always, .q (.mv (.t 12))⟩])
  (.cond (.t 11) (.reg [2, 3, 5, 6] false [⟨(some 5), .always, .q (.mv (.k (.sc (.int .i64 0))))⟩])
  .skip))))))
  (.seq (.seq (.reg [2, 3, 5, 24] false [⟨(some 13), .always, .q (.fa 3 (.t 3))⟩,
  ⟨(some 14), .always, .q (.load none (.t 13))⟩,
  ⟨(some 15), .always, .q (.lenL (.t 14))⟩,
  ⟨(some 16), .always, .q (.mv (.t 5))⟩,
  ⟨(some 17), .always, .q (.bin .neq .no false (.t 15) (.t 16))⟩,
  ⟨(some 18), .always, .q (.mv (.t 17))⟩,
  ⟨(some 19), (.on 18 false), .q (.fa 2 (.t 3))⟩,
  ⟨(some 20), (.on 18 false), .q (.load none (.t 19))⟩,
  ⟨(some 21), (.on 18 false), .q (.lenL (.t 20))⟩,
  ⟨(some 22), (.on 18 false), .q (.mv (.t 6))⟩,
  ⟨(some 23), (.on 18 false), .q (.bin .neq .no false (.t 21) (.t 22))⟩,
  ⟨(some 24), .always, .q (.pick (.t 18) (.k (.sc (.bool true))) (.t 23))⟩])
  (.cond (.t 24) (.seq (.reg [4] false [⟨(some 25), .always, .q (.load none (.k (.gl 4)))⟩,
  ⟨(some 4), .always, .q (.mv (.t 25))⟩])
  .ret)
  .skip))
  (.seq (.seq (.reg [44] true [⟨(some 26), .always, .q (.mv (.t 5))⟩,
  ⟨(some 27), .always, .q (.bin .gtr .no true (.t 26) (.k (.sc (.int .i64 0))))⟩,
  ⟨(some 28), .always, .q (.mv (.t 27))⟩,
  ⟨(some 29), (.on 28 true), .q (.fa 3 (.t 3))⟩,
  ⟨(some 30), (.on 28 true), .q (.load none (.t 29))⟩,
  ⟨(some 31), (.on 28 true), .q (.iaS 1 (.t 30) (.k (.sc (.int .i64 0))))⟩,
  ⟨(some 32), (.on 28 true), .q (.load none (.t 31))⟩,
  ⟨(some 33), (.on 28 true), .q (.bin .lss .no true (.t 32) (.k (.sc (.int .i64 0))))⟩,
  ⟨(some 34), (.on 28 true), .q (.mv (.t 33))⟩,
  ⟨(some 35), (.on 34 false), .q (.fa 3 (.t 3))⟩,
  ⟨(some 36), (.on 34 false), .q (.load none (.t 35))⟩,
  ⟨(some 37), (.on 34 false), .q (.iaS 1 (.t 36) (.k (.sc (.int .i64 0))))⟩,
  ⟨(some 38), (.on 34 false), .q (.load none (.t 37))⟩,
  ⟨(some 39), (.on 34 false), .q (.fa 4 (.t 2))⟩,
  ⟨(some 40), (.on 34 false), .q (.load none (.t 39))⟩,
  ⟨(some 41), (.on 34 false), .q (.lenL (.t 40))⟩,
  ⟨(some 42), (.on 34 false), .q (.bin .gtr .no false (.t 38) (.t 41))⟩,
  ⟨(some 43), (.on 28 true), .q (.pick (.t 34) (.k (.sc (.bool true))) (.t 42))⟩,
  ⟨(some 44), .always, .q (.pick (.t 28) (.t 43) (.k (.sc (.bool false))))⟩])
  (.cond (.t 44) (.seq (.reg [4] false [⟨(some 45), .always, .q (.load none (.k (.gl 8)))⟩,
  ⟨(some 4), .always, .q (.mv (.t 45))⟩])
  .ret)
  .skip))
  (.seq (.reg [4] false [⟨(some 4), .always, .q (.mv (.k (.sc .nilIface)))⟩])
  .ret))))))
/-! 57 lodge/check.made: 2 params, 2 results, 133 -/
def b57_0 : XC := (.seq (.reg [2, 3, 6, 107, 108, 109, 110] false [⟨(some 110), .always, .q (.bin .lss .no false (.t 109) (.t 108))⟩])
  (.seq (.cond (.t 110) .skip
  (.exit 1))
  (.seq (.block 2 (.seq (.reg [2, 3, 6, 12, 107, 108, 109] false [⟨(some 111), .always, .q (.iaS 1 (.t 107) (.t 109))⟩,
  ⟨(some 112), .always, .q (.load none (.t 111))⟩,
  ⟨(some 12), .always, .q (.mv (.t 112))⟩])
  (.seq (.reg [2, 3, 6, 107, 108, 109, 120] true [⟨(some 113), .always, .q (.load (some 3) (.t 6))⟩,
  ⟨(some 114), .always, .q (.fa 1 (.t 2))⟩,
  ⟨(some 115), .always, .q (.load none (.t 114))⟩,
  ⟨(some 116), .always, .q (.mv (.t 12))⟩,
  ⟨(some 117), .always, .q (.iaS 3 (.t 115) (.t 116))⟩,
  ⟨(some 118), .always, .q (.load (some 3) (.t 117))⟩,
  ⟨(some 119), .always, .call (.k (.fn 17 [] [])) [(.t 113), (.t 118)]⟩,
  ⟨(some 120), .always, .q (.not (.t 119))⟩])
  (.cond (.t 120) (.seq (.reg [4, 5] true [⟨(some 121), .always, .q (.load none (.k (.gl 9)))⟩,
  ⟨(some 4), .always, .q (.mv (.k (.sc (.int .i64 0))))⟩,
  ⟨(some 5), .always, .q (.mv (.t 121))⟩])
  .ret)
  .skip))))
  (.reg [2, 3, 6, 107, 108, 109] false [⟨(some 122), .always, .q (.bin .add .no true (.t 109) (.k (.sc (.int .i64 1))))⟩,
  ⟨(some 109), .always, .q (.mv (.t 122))⟩]))))
def l57_0 : XC := b57_0
theorem xl57_0 {E : Env} {Q : AX → St → Prop} {s : St} : xp E l57_0 s Q = xp E b57_0 s Q := rfl
def x57 : XC := (.seq (.reg [2, 3] false [⟨(some 2), .always, .e (.box 2 57 true 7 (.t 0))⟩,
  ⟨(some 3), .always, .e (.box 3 60 true 6 (.t 1))⟩,
  ⟨(some 4), .always, .q (.mv (.k (.sc (.int .i64 0))))⟩,
  ⟨(some 5), .always, .q (.mv (.k (.sc .nilIface)))⟩])
  (.seq (.reg [2, 3, 6] false [⟨(some 13), .always, .q (.fa 1 (.t 2))⟩,
  ⟨(some 14), .always, .q (.load none (.t 13))⟩,
  ⟨(some 15), .always, .q (.fa 1 (.t 3))⟩,
  ⟨(some 16), .always, .q (.load none (.t 15))⟩,
  ⟨(some 17), .always, .q (.iaS 3 (.t 14) (.t 16))⟩,
  ⟨(some 18), .always, .q (.load (some 3) (.t 17))⟩,
  ⟨(some 6), .always, .e (.new 6 49 true [(.sc (.int .i64 0)), (.sc (.slice none 0 0)), (.sc (.bool false))])⟩,
  ⟨none, .always, .e (.sto 3 (.t 6) (.t 18))⟩])
  (.seq (.seq (.reg [2, 3, 6, 22] false [⟨(some 19), .always, .q (.fa 0 (.t 3))⟩,
  ⟨(some 20), .always, .q (.load none (.t 19))⟩,
  ⟨(some 21), .always, .call (.k (.fn 42 [] [])) [(.t 20)]⟩,
  ⟨(some 22), .always, .q (.not (.t 21))⟩])
  (.cond (.t 22) (.seq (.seq (.reg [2, 3, 6, 32] false [⟨(some 23), .always, .q (.fa 3 (.t 3))⟩,
  ⟨(some 24), .always, .q (.load none (.t 23))⟩,
  ⟨(some 25), .always, .q (.lenL (.t 24))⟩,
  ⟨(some 26), .always, .q (.bin .neq .no true (.t 25) (.k (.sc (.int .i64 1))))⟩,
  ⟨(some 27), .always, .q (.mv (.t 26))⟩,
  ⟨(some 28), (.on 27 false), .q (.fa 2 (.t 3))⟩,
  ⟨(some 29), (.on 27 false), .q (.load none (.t 28))⟩,
  ⟨(some 30), (.on 27 false), .q (.lenL (.t 29))⟩,
  ⟨(some 31), (.on 27 false), .q (.bin .neq .no true (.t 30) (.k (.sc (.int .i64 0))))⟩,
  ⟨(some 32), .always, .q (.pick (.t 27) (.k (.sc (.bool true))) (.t 31))⟩])
  (.cond (.t 32) (.seq (.reg [4, 5] true [⟨(some 33), .always, .q (.load none (.k (.gl 4)))⟩,
  ⟨(some 4), .always, .q (.mv (.k (.sc (.int .i64 0))))⟩,
  ⟨(some 5), .always, .q (.mv (.t 33))⟩])
  .ret)
  .skip))
  (.seq (.reg [2, 3, 6, 7] false [⟨(some 34), .always, .q (.fa 3 (.t 3))⟩,
  ⟨(some 35), .always, .q (.load none (.t 34))⟩,
  ⟨(some 36), .always, .q (.iaS 1 (.t 35) (.k (.sc (.int .i64 0))))⟩,
  ⟨(some 37), .always, .q (.load none (.t 36))⟩,
  ⟨(some 7), .always, .q (.mv (.t 37))⟩])
  (.seq (.reg [2, 3, 6, 7, 8] false [⟨(some 8), .always, .e (.new 8 26 true [(.sc (.slice none 0 0)), (.sc (.bool false))])⟩])
  (.seq (.block 0 (.seq (.reg [2, 3, 6, 7, 8, 39] false [⟨(some 40), .always, .q (.fa 0 (.t 3))⟩,
  ⟨(some 41), .always, .q (.load none (.t 40))⟩,
  ⟨(some 42), .always, .q (.bin .eql .no true (.t 41) (.k (.sc (.int .i64 2))))⟩,
  ⟨(some 43), .always, .q (.mv (.t 42))⟩,
  ⟨(some 44), (.on 43 true), .q (.mv (.t 7))⟩,
  ⟨(some 45), (.on 43 true), .q (.bin .geq .no true (.t 44) (.k (.sc (.int .i64 0))))⟩,
  ⟨(some 46), .always, .q (.pick (.t 43) (.t 45) (.k (.sc (.bool false))))⟩,
  ⟨(some 47), .always, .q (.mv (.t 46))⟩,
  ⟨(some 48), (.on 47 true), .q (.mv (.t 7))⟩,
  ⟨(some 49), (.on 47 true), .q (.fa 2 (.t 2))⟩,
  ⟨(some 50), (.on 47 true), .q (.load none (.t 49))⟩,
  ⟨(some 51), (.on 47 true), .q (.lenL (.t 50))⟩,
  ⟨(some 52), (.on 47 true), .q (.bin .lss .no false (.t 48) (.t 51))⟩,
  ⟨(some 53), .always, .q (.pick (.t 47) (.t 52) (.k (.sc (.bool false))))⟩,
  ⟨(some 39), .always, .q (.mv (.t 53))⟩])
  (.cond (.t 39) (.reg [6, 8] false [⟨(some 54), .always, .q (.fa 2 (.t 2))⟩,
  ⟨(some 55), .always, .q (.load none (.t 54))⟩,
  ⟨(some 56), .always, .q (.mv (.t 7))⟩,
  ⟨(some 57), .always, .q (.iaS 3 (.t 55) (.t 56))⟩,
  ⟨(some 58), .always, .q (.fa 0 (.t 57))⟩,
  ⟨(some 59), .always, .q (.load (some 2) (.t 58))⟩,
  ⟨none, .always, .e (.sto 2 (.t 8) (.t 59))⟩])
  (.seq (.reg [2, 6, 7, 8, 60] false [⟨(some 61), .always, .q (.fa 0 (.t 3))⟩,
  ⟨(some 62), .always, .q (.load none (.t 61))⟩,
  ⟨(some 63), .always, .q (.bin .eql .no true (.t 62) (.k (.sc (.int .i64 3))))⟩,
  ⟨(some 64), .always, .q (.mv (.t 63))⟩,
  ⟨(some 65), (.on 64 true), .q (.mv (.t 7))⟩,
  ⟨(some 66), (.on 64 true), .q (.bin .geq .no true (.t 65) (.k (.sc (.int .i64 0))))⟩,
  ⟨(some 67), .always, .q (.pick (.t 64) (.t 66) (.k (.sc (.bool false))))⟩,
  ⟨(some 68), .always, .q (.mv (.t 67))⟩,
  ⟨(some 69), (.on 68 true), .q (.mv (.t 7))⟩,
  ⟨(some 70), (.on 68 true), .q (.fa 3 (.t 2))⟩,
  ⟨(some 71), (.on 68 true), .q (.load none (.t 70))⟩,
  ⟨(some 72), (.on 68 true), .q (.lenL (.t 71))⟩,
  ⟨(some 73), (.on 68 true), .q (.bin .lss .no false (.t 69) (.t 72))⟩,
  ⟨(some 74), .always, .q (.pick (.t 68) (.t 73) (.k (.sc (.bool false))))⟩,
  ⟨(some 60), .always, .q (.mv (.t 74))⟩])
  (.cond (.t 60) (.reg [6, 8] false [⟨(some 75), .always, .q (.fa 3 (.t 2))⟩,
  ⟨(some 76), .always, .q (.load none (.t 75))⟩,
  ⟨(some 77), .always, .q (.mv (.t 7))⟩,
  ⟨(some 78), .always, .q (.iaS 2 (.t 76) (.t 77))⟩,
  ⟨(some 79), .always, .q (.load (some 2) (.t 78))⟩,
  ⟨none, .always, .e (.sto 2 (.t 8) (.t 79))⟩])
  (.seq (.reg [4, 5] true [⟨(some 38), .always, .q (.load none (.k (.gl 1)))⟩,
  ⟨(some 4), .always, .q (.mv (.k (.sc (.int .i64 0))))⟩,
  ⟨(some 5), .always, .q (.mv (.t 38))⟩])
  .ret))))))
  (.seq (.seq (.reg [84] false [⟨(some 80), .always, .q (.load (some 2) (.t 8))⟩,
  ⟨(some 81), .always, .q (.fa 1 (.t 6))⟩,
  ⟨(some 82), .always, .q (.load (some 2) (.t 81))⟩,
  ⟨(some 83), .always, .call (.k (.fn 68 [] [])) [(.t 80), (.t 82)]⟩,
  ⟨(some 84), .always, .q (.not (.t 83))⟩])
  (.cond (.t 84) (.seq (.reg [4, 5] true [⟨(some 85), .always, .q (.load none (.k (.gl 4)))⟩,
  ⟨(some 4), .always, .q (.mv (.k (.sc (.int .i64 0))))⟩,
  ⟨(some 5), .always, .q (.mv (.t 85))⟩])
  .ret)
  .skip))
  (.seq (.reg [4, 5] false [⟨(some 4), .always, .q (.mv (.k (.sc (.int .i64 1))))⟩,
  ⟨(some 5), .always, .q (.mv (.k (.sc .nilIface)))⟩])
  .ret))))))
  .skip))
  (.seq (.regD [2, 3, 6, 9, 10] [0, 1, 0, 4, 0, 0, 48, 127, 255, 511, 511, 0, 3071, 8191] [⟨(some 87), .always, .q (.fa 0 (.t 3))⟩,
  ⟨(some 88), .always, .q (.load none (.t 87))⟩,
  ⟨(some 89), .always, .q (.fa 3 (.t 3))⟩,
  ⟨(some 90), .always, .q (.load none (.t 89))⟩,
  ⟨(some 91), .always, .q (.load (some 7) (.t 2))⟩,
  ⟨(some 92), .always, .q (.load (some 6) (.t 3))⟩,
  ⟨(some 93), .always, .call (.k (.fn 78 [] [])) [(.t 91), (.t 92)]⟩,
  ⟨(some 94), .always, .call (.k (.fn 43 [] [])) [(.t 88), (.t 90), (.t 93)]⟩,
  ⟨(some 86), .always, .q (.mv (.t 94))⟩,
  ⟨(some 95), .always, .q (.ext (.t 86) 0)⟩,
  ⟨(some 96), .always, .q (.ext (.t 86) 1)⟩,
  ⟨(some 9), .always, .e (.new 9 26 true [(.sc (.slice none 0 0)), (.sc (.bool false))])⟩,
  ⟨none, .always, .e (.sto 2 (.t 9) (.t 95))⟩,
  ⟨(some 10), .always, .q (.mv (.t 96))⟩])
  (.seq (.seq (.reg [2, 3, 6, 9, 10, 98] false [⟨(some 97), .always, .q (.mv (.t 10))⟩,
  ⟨(some 98), .always, .q (.bin .neq .iface true (.t 97) (.k (.sc .nilIface)))⟩])
  (.cond (.t 98) (.seq (.reg [4, 5] false [⟨(some 99), .always, .q (.mv (.t 10))⟩,
  ⟨(some 4), .always, .q (.mv (.k (.sc (.int .i64 0))))⟩,
  ⟨(some 5), .always, .q (.mv (.t 99))⟩])
  .ret)
  .skip))
  (.seq (.seq (.reg [2, 3, 6, 104] false [⟨(some 100), .always, .q (.load (some 2) (.t 9))⟩,
  ⟨(some 101), .always, .q (.fa 1 (.t 6))⟩,
  ⟨(some 102), .always, .q (.load (some 2) (.t 101))⟩,
  ⟨(some 103), .always, .call (.k (.fn 68 [] [])) [(.t 100), (.t 102)]⟩,
  ⟨(some 104), .always, .q (.not (.t 103))⟩])
  (.cond (.t 104) (.seq (.reg [4, 5] true [⟨(some 105), .always, .q (.load none (.k (.gl 4)))⟩,
  ⟨(some 4), .always, .q (.mv (.k (.sc (.int .i64 0))))⟩,
  ⟨(some 5), .always, .q (.mv (.t 105))⟩])
  .ret)
  .skip))
  (.seq (.seq (.reg [2, 3, 6, 107, 108, 109] false [⟨(some 106), .always, .q (.fa 2 (.t 3))⟩,
  ⟨(some 107), .always, .q (.load none (.t 106))⟩,
  ⟨(some 108), .always, .q (.lenL (.t 107))⟩,
  ⟨(some 109), .always, .q (.mv (.k (.sc (.int .i64 0))))⟩])
  (.block 1 (.loop l57_0)))
  (.seq (.reg [4, 5] true [⟨(some 123), .always, .q (.fa 0 (.t 3))⟩,
  ⟨(some 124), .always, .q (.load none (.t 123))⟩,
  ⟨(some 125), .always, .q (.fa 3 (.t 3))⟩,
  ⟨(some 126), .always, .q (.load none (.t 125))⟩,
  ⟨(some 127), .always, .q (.load (some 7) (.t 2))⟩,
  ⟨(some 128), .always, .q (.load (some 6) (.t 3))⟩,
  ⟨(some 129), .always, .call (.k (.fn 78 [] [])) [(.t 127), (.t 128)]⟩,
  ⟨(some 130), .always, .call (.k (.fn 79 [] [])) [(.t 124), (.t 126), (.t 129)]⟩,
  ⟨(some 131), .always, .q (.ext (.t 130) 0)⟩,
  ⟨(some 132), .always, .q (.ext (.t 130) 1)⟩,
  ⟨(some 4), .always, .q (.mv (.t 131))⟩,
  ⟨(some 5), .always, .q (.mv (.t 132))⟩])
  .ret))))))))
/-! 58 lodge/op.Ins: 1 params, 1 results, 15 -/
def x58 : XC := (.seq (.reg [0] false [⟨(some 2), .always, .q (.mv (.k (.sc (.int .i64 0))))⟩])
  (.seq (.seq (.reg [0, 3] false [⟨(some 3), .always, .q (.mv (.t 0))⟩])
  (.block 0 (.seq (.seq (.reg [0, 3, 4] false [⟨(some 5), .always, .q (.bin .eql .no true (.t 3) (.k (.sc (.int .i64 4))))⟩,
  ⟨(some 4), .always, .q (.mv (.t 5))⟩])
  (.cond (.t 4) .skip
  (.seq (.reg [0, 3, 4] false [⟨(some 6), .always, .q (.bin .eql .no true (.t 3) (.k (.sc (.int .i64 5))))⟩,
  ⟨(some 4), .always, .q (.mv (.t 6))⟩])
  (.cond (.t 4) .skip
  (.seq (.reg [0, 3, 4] false [⟨(some 7), .always, .q (.bin .eql .no true (.t 3) (.k (.sc (.int .i64 6))))⟩,
  ⟨(some 4), .always, .q (.mv (.t 7))⟩])
  (.cond (.t 4) .skip
  (.seq (.reg [0, 3, 4] false [⟨(some 8), .always, .q (.bin .eql .no true (.t 3) (.k (.sc (.int .i64 7))))⟩,
  ⟨(some 4), .always, .q (.mv (.t 8))⟩])
  (.cond (.t 4) .skip
  (.seq (.reg [0, 3, 4] false [⟨(some 9), .always, .q (.bin .eql .no true (.t 3) (.k (.sc (.int .i64 12))))⟩,
  ⟨(some 4), .always, .q (.mv (.t 9))⟩])
  (.cond (.t 4) .skip
  (.seq (.reg [0, 3, 4] false [⟨(some 10), .always, .q (.bin .eql .no true (.t 3) (.k (.sc (.int .i64 13))))⟩,
  ⟨(some 4), .always, .q (.mv (.t 10))⟩])
  (.cond (.t 4) .skip
  (.seq (.reg [0, 3, 4] false [⟨(some 11), .always, .q (.bin .eql .no true (.t 3) (.k (.sc (.int .i64 16))))⟩,
  ⟨(some 4), .always, .q (.mv (.t 11))⟩])
  (.cond (.t 4) .skip
  (.reg [0, 4] false [⟨(some 12), .always, .q (.bin .eql .no true (.t 3) (.k (.sc (.int .i64 17))))⟩,
  ⟨(some 4), .always, .q (.mv (.t 12))⟩])))))))))))))))
  (.cond (.t 4) (.seq (.reg [2] false [⟨(some 2), .always, .q (.mv (.k (.sc (.int .i64 2))))⟩])
  .ret)
  .skip))))
  (.seq (.seq (.reg [14] false [⟨(some 13), .always, .q (.mv (.t 0))⟩,
  ⟨(some 14), .always, .call (.k (.fn 42 [] [])) [(.t 13)]⟩])
  (.cond (.t 14) (.seq (.reg [2] false [⟨(some 2), .always, .q (.mv (.k (.sc (.int .i64 1))))⟩])
  .ret)
  .skip))
  (.seq (.reg [2] false [⟨(some 2), .always, .q (.mv (.k (.sc (.int .i64 0))))⟩])
  .ret))))
/-! 59 lodge/op.Args: 1 params, 1 results, 14 -/
def x59 : XC := (.seq (.reg [0] false [⟨(some 2), .always, .q (.mv (.k (.sc (.int .i64 0))))⟩])
  (.seq (.seq (.reg [3] false [⟨(some 3), .always, .q (.mv (.t 0))⟩])
  (.block 0 (.seq (.seq (.reg [3, 4] false [⟨(some 5), .always, .q (.bin .eql .no true (.t 3) (.k (.sc (.int .i64 9))))⟩,
  ⟨(some 4), .always, .q (.mv (.t 5))⟩])
  (.cond (.t 4) .skip
  (.seq (.reg [3, 4] false [⟨(some 6), .always, .q (.bin .eql .no true (.t 3) (.k (.sc (.int .i64 12))))⟩,
  ⟨(some 4), .always, .q (.mv (.t 6))⟩])
  (.cond (.t 4) .skip
  (.seq (.reg [3, 4] false [⟨(some 7), .always, .q (.bin .eql .no true (.t 3) (.k (.sc (.int .i64 14))))⟩,
  ⟨(some 4), .always, .q (.mv (.t 7))⟩])
  (.cond (.t 4) .skip
  (.reg [3, 4] false [⟨(some 8), .always, .q (.bin .eql .no true (.t 3) (.k (.sc (.int .i64 15))))⟩,
  ⟨(some 4), .always, .q (.mv (.t 8))⟩])))))))
  (.cond (.t 4) (.seq (.reg [2] false [⟨(some 2), .always, .q (.mv (.k (.sc (.int .i64 2))))⟩])
  .ret)
  (.seq (.seq (.reg [3, 9] false [⟨(some 10), .always, .q (.bin .eql .no true (.t 3) (.k (.sc (.int .i64 10))))⟩,
  ⟨(some 9), .always, .q (.mv (.t 10))⟩])
  (.cond (.t 9) .skip
  (.reg [3, 9] false [⟨(some 11), .always, .q (.bin .eql .no true (.t 3) (.k (.sc (.int .i64 13))))⟩,
  ⟨(some 9), .always, .q (.mv (.t 11))⟩])))
  (.cond (.t 9) (.seq (.reg [2] false [⟨(some 2), .always, .q (.mv (.k (.sc (.int .i64 3))))⟩])
  .ret)
  (.seq (.reg [12] false [⟨(some 13), .always, .q (.bin .eql .no true (.t 3) (.k (.sc (.int .i64 11))))⟩,
  ⟨(some 12), .always, .q (.mv (.t 13))⟩])
  (.cond (.t 12) (.seq (.reg [2] false [⟨(some 2), .always, .q (.mv (.k (.sc (.int .i64 1))))⟩])
  .ret)
  .skip))))))))
  (.seq (.reg [2] false [⟨(some 2), .always, .q (.mv (.k (.sc (.int .i64 0))))⟩])
  .ret)))
/-! 60 lodge/mat.Result: 4 params, 2 results, 88 -/
def b60_0 : XC := (.seq (.reg [0, 1, 6, 7, 8, 17, 18, 19, 20] false [⟨(some 20), .always, .q (.bin .lss .no false (.t 19) (.t 18))⟩])
  (.seq (.cond (.t 20) .skip
  (.exit 0))
  (.seq (.block 1 (.seq (.reg [0, 1, 6, 7, 8, 11, 17, 18, 19] false [⟨(some 21), .always, .q (.iaS 2 (.t 17) (.t 19))⟩,
  ⟨(some 22), .always, .q (.load (some 2) (.t 21))⟩,
  ⟨(some 11), .always, .e (.new 11 26 true [(.sc (.slice none 0 0)), (.sc (.bool false))])⟩,
  ⟨none, .always, .e (.sto 2 (.t 11) (.t 22))⟩])
  (.seq (.reg [0, 1, 6, 7, 8, 12, 17, 18, 19] false [⟨(some 23), .always, .q (.load (some 2) (.t 11))⟩,
  ⟨(some 24), .always, .call (.k (.fn 51 [] [])) [(.t 23)]⟩,
  ⟨(some 12), .always, .q (.mv (.t 24))⟩])
  (.seq (.reg [0, 1, 6, 7, 8, 12, 17, 18, 19, 26] false [⟨(some 25), .always, .q (.mv (.t 12))⟩,
  ⟨(some 26), .always, .q (.bin .neq .iface true (.t 25) (.k (.sc .nilIface)))⟩])
  (.cond (.t 26) (.seq (.reg [8, 9] false [⟨(some 27), .always, .q (.build [(.sc (.slice none 0 0)), (.sc (.bool false))] [])⟩,
  ⟨(some 28), .always, .q (.mv (.t 12))⟩,
  ⟨none, .always, .e (.sto 2 (.t 8) (.t 27))⟩,
  ⟨(some 9), .always, .q (.mv (.t 28))⟩])
  .ret)
  .skip)))))
  (.reg [0, 1, 6, 7, 8, 17, 18, 19] false [⟨(some 29), .always, .q (.bin .add .no true (.t 19) (.k (.sc (.int .i64 1))))⟩,
  ⟨(some 19), .always, .q (.mv (.t 29))⟩]))))
def l60_0 : XC := b60_0
theorem xl60_0 {E : Env} {Q : AX → St → Prop} {s : St} : xp E l60_0 s Q = xp E b60_0 s Q := rfl
def x60 : XC := (.seq (.reg [0, 1, 6, 7, 8] false [⟨(some 6), .always, .e (.box 6 26 true 2 (.t 2))⟩,
  ⟨(some 7), .always, .e (.box 7 26 true 2 (.t 3))⟩,
  ⟨(some 8), .always, .e (.new 8 26 true [(.sc (.slice none 0 0)), (.sc (.bool false))])⟩,
  ⟨(some 9), .always, .q (.mv (.k (.sc .nilIface)))⟩])
  (.seq (.seq (.reg [0, 1, 6, 7, 8, 17, 18, 19] false [⟨(some 15), .always, .q (.load (some 2) (.t 6))⟩,
  ⟨(some 16), .always, .q (.load (some 2) (.t 7))⟩,
  ⟨(some 17), .always, .e (.bsl false 26 [(.sc (.slice none 0 0)), (.sc (.bool false))] 2 2 [(0, 2, (.t 15)), (2, 2, (.t 16))])⟩,
  ⟨(some 18), .always, .q (.lenL (.t 17))⟩,
  ⟨(some 19), .always, .q (.mv (.k (.sc (.int .i64 0))))⟩])
  (.block 0 (.loop l60_0)))
  (.seq (.seq (.reg [0, 1, 6, 7, 8, 58] true [⟨(some 30), .always, .q (.fa 0 (.t 6))⟩,
  ⟨(some 31), .always, .q (.load none (.t 30))⟩,
  ⟨(some 32), .always, .q (.lenL (.t 31))⟩,
  ⟨(some 33), .always, .q (.bin .neq .no true (.t 32) (.k (.sc (.int .i64 2))))⟩,
  ⟨(some 34), .always, .q (.mv (.t 33))⟩,
  ⟨(some 35), (.on 34 false), .q (.fa 0 (.t 7))⟩,
  ⟨(some 36), (.on 34 false), .q (.load none (.t 35))⟩,
  ⟨(some 37), (.on 34 false), .q (.lenL (.t 36))⟩,
  ⟨(some 38), (.on 34 false), .q (.bin .neq .no true (.t 37) (.k (.sc (.int .i64 2))))⟩,
  ⟨(some 39), .always, .q (.pick (.t 34) (.k (.sc (.bool true))) (.t 38))⟩,
  ⟨(some 40), .always, .q (.mv (.t 39))⟩,
  ⟨(some 41), (.on 40 false), .q (.fa 0 (.t 6))⟩,
  ⟨(some 42), (.on 40 false), .q (.load none (.t 41))⟩,
  ⟨(some 43), (.on 40 false), .q (.iaS 1 (.t 42) (.k (.sc (.int .i64 1))))⟩,
  ⟨(some 44), (.on 40 false), .q (.load none (.t 43))⟩,
  ⟨(some 45), (.on 40 false), .q (.fa 0 (.t 7))⟩,
  ⟨(some 46), (.on 40 false), .q (.load none (.t 45))⟩,
  ⟨(some 47), (.on 40 false), .q (.iaS 1 (.t 46) (.k (.sc (.int .i64 0))))⟩,
  ⟨(some 48), (.on 40 false), .q (.load none (.t 47))⟩,
  ⟨(some 49), (.on 40 false), .q (.bin .neq .no false (.t 44) (.t 48))⟩,
  ⟨(some 50), .always, .q (.pick (.t 40) (.k (.sc (.bool true))) (.t 49))⟩,
  ⟨(some 51), .always, .q (.mv (.t 50))⟩,
  ⟨(some 52), (.on 51 false), .q (.fa 1 (.t 6))⟩,
  ⟨(some 53), (.on 51 false), .q (.load none (.t 52))⟩,
  ⟨(some 54), .always, .q (.pick (.t 51) (.k (.sc (.bool true))) (.t 53))⟩,
  ⟨(some 55), .always, .q (.mv (.t 54))⟩,
  ⟨(some 56), (.on 55 false), .q (.fa 1 (.t 7))⟩,
  ⟨(some 57), (.on 55 false), .q (.load none (.t 56))⟩,
  ⟨(some 58), .always, .q (.pick (.t 55) (.k (.sc (.bool true))) (.t 57))⟩])
  (.cond (.t 58) (.seq (.regD [8, 9] [0, 0, 1, 7] [⟨(some 59), .always, .q (.build [(.sc (.slice none 0 0)), (.sc (.bool false))] [])⟩,
  ⟨(some 60), .always, .q (.load none (.k (.gl 4)))⟩,
  ⟨none, .always, .e (.sto 2 (.t 8) (.t 59))⟩,
  ⟨(some 9), .always, .q (.mv (.t 60))⟩])
  .ret)
  .skip))
  (.seq (.seq (.reg [6, 7, 8, 68] false [⟨(some 61), .always, .q (.mv (.t 0))⟩,
  ⟨(some 62), .always, .call (.k (.fn 80 [] [])) [(.t 61)]⟩,
  ⟨(some 63), .always, .q (.not (.t 62))⟩,
  ⟨(some 64), .always, .q (.mv (.t 63))⟩,
  ⟨(some 65), (.on 64 false), .q (.mv (.t 1))⟩,
  ⟨(some 66), (.on 64 false), .call (.k (.fn 80 [] [])) [(.t 65)]⟩,
  ⟨(some 67), (.on 64 false), .q (.not (.t 66))⟩,
  ⟨(some 68), .always, .q (.pick (.t 64) (.k (.sc (.bool true))) (.t 67))⟩])
  (.cond (.t 68) (.seq (.regD [8, 9] [0, 0, 1, 7] [⟨(some 69), .always, .q (.build [(.sc (.slice none 0 0)), (.sc (.bool false))] [])⟩,
  ⟨(some 70), .always, .q (.load none (.k (.gl 5)))⟩,
  ⟨none, .always, .e (.sto 2 (.t 8) (.t 69))⟩,
  ⟨(some 9), .always, .q (.mv (.t 70))⟩])
  .ret)
  .skip))
  (.seq (.regD [8, 13] [0, 1, 3, 7, 0, 16, 48, 112, 255, 511, 0, 2047] [⟨(some 71), .always, .q (.fa 0 (.t 6))⟩,
  ⟨(some 72), .always, .q (.load none (.t 71))⟩,
  ⟨(some 73), .always, .q (.iaS 1 (.t 72) (.k (.sc (.int .i64 0))))⟩,
  ⟨(some 74), .always, .q (.load none (.t 73))⟩,
  ⟨(some 75), .always, .q (.fa 0 (.t 7))⟩,
  ⟨(some 76), .always, .q (.load none (.t 75))⟩,
  ⟨(some 77), .always, .q (.iaS 1 (.t 76) (.k (.sc (.int .i64 1))))⟩,
  ⟨(some 78), .always, .q (.load none (.t 77))⟩,
  ⟨(some 79), .always, .e (.bsl false 3 [(.sc (.int .i64 0))] 1 2 [(0, 1, (.t 74)), (1, 1, (.t 78))])⟩,
  ⟨(some 80), .always, .q (.build [(.sc (.slice none 0 0)), (.sc (.bool false))] [(0, 1, (.t 79)), (1, 1, (.k (.sc (.bool true))))])⟩,
  ⟨(some 13), .always, .e (.new 13 26 true [(.sc (.slice none 0 0)), (.sc (.bool false))])⟩,
  ⟨none, .always, .e (.sto 2 (.t 13) (.t 80))⟩])
  (.seq (.seq (.reg [8, 13, 14] false [⟨(some 81), .always, .q (.load (some 2) (.t 13))⟩,
  ⟨(some 82), .always, .call (.k (.fn 51 [] [])) [(.t 81)]⟩,
  ⟨(some 14), .always, .q (.mv (.t 82))⟩])
  (.seq (.reg [8, 13, 14, 84] false [⟨(some 83), .always, .q (.mv (.t 14))⟩,
  ⟨(some 84), .always, .q (.bin .neq .iface true (.t 83) (.k (.sc .nilIface)))⟩])
  (.cond (.t 84) (.seq (.reg [8, 9] false [⟨(some 85), .always, .q (.build [(.sc (.slice none 0 0)), (.sc (.bool false))] [])⟩,
  ⟨(some 86), .always, .q (.mv (.t 14))⟩,
  ⟨none, .always, .e (.sto 2 (.t 8) (.t 85))⟩,
  ⟨(some 9), .always, .q (.mv (.t 86))⟩])
  .ret)
  .skip)))
  (.seq (.reg [8, 9] false [⟨(some 87), .always, .q (.load (some 2) (.t 13))⟩,
  ⟨none, .always, .e (.sto 2 (.t 8) (.t 87))⟩,
  ⟨(some 9), .always, .q (.mv (.k (.sc .nilIface)))⟩])
  .ret)))))))
/-! 61 lodge/conv.Result: 3 params, 2 results, 153 -/
def b61_0 : XC := (.seq (.reg [0, 4, 5, 6, 25, 26, 27, 28] false [⟨(some 28), .always, .q (.bin .lss .no false (.t 27) (.t 26))⟩])
  (.seq (.cond (.t 28) .skip
  (.exit 0))
  (.seq (.block 1 (.seq (.reg [0, 4, 5, 6, 9, 25, 26, 27] false [⟨(some 29), .always, .q (.iaS 2 (.t 25) (.t 27))⟩,
  ⟨(some 30), .always, .q (.load (some 2) (.t 29))⟩,
  ⟨(some 9), .always, .e (.new 9 26 true [(.sc (.slice none 0 0)), (.sc (.bool false))])⟩,
  ⟨none, .always, .e (.sto 2 (.t 9) (.t 30))⟩])
  (.seq (.reg [0, 4, 5, 6, 10, 25, 26, 27] false [⟨(some 31), .always, .q (.load (some 2) (.t 9))⟩,
  ⟨(some 32), .always, .call (.k (.fn 51 [] [])) [(.t 31)]⟩,
  ⟨(some 10), .always, .q (.mv (.t 32))⟩])
  (.seq (.reg [0, 4, 5, 6, 10, 25, 26, 27, 34] false [⟨(some 33), .always, .q (.mv (.t 10))⟩,
  ⟨(some 34), .always, .q (.bin .neq .iface true (.t 33) (.k (.sc .nilIface)))⟩])
  (.cond (.t 34) (.seq (.reg [6, 7] false [⟨(some 35), .always, .q (.build [(.sc (.slice none 0 0)), (.sc (.bool false))] [])⟩,
  ⟨(some 36), .always, .q (.mv (.t 10))⟩,
  ⟨none, .always, .e (.sto 2 (.t 6) (.t 35))⟩,
  ⟨(some 7), .always, .q (.mv (.t 36))⟩])
  .ret)
  .skip)))))
  (.reg [0, 4, 5, 6, 25, 26, 27] false [⟨(some 37), .always, .q (.bin .add .no true (.t 27) (.k (.sc (.int .i64 1))))⟩,
  ⟨(some 27), .always, .q (.mv (.t 37))⟩]))))
def l61_0 : XC := b61_0
theorem xl61_0 {E : Env} {Q : AX → St → Prop} {s : St} : xp E l61_0 s Q = xp E b61_0 s Q := rfl
def x61 : XC := (.seq (.reg [0, 4, 5, 6] false [⟨(some 4), .always, .e (.box 4 26 true 2 (.t 1))⟩,
  ⟨(some 5), .always, .e (.box 5 26 true 2 (.t 2))⟩,
  ⟨(some 6), .always, .e (.new 6 26 true [(.sc (.slice none 0 0)), (.sc (.bool false))])⟩,
  ⟨(some 7), .always, .q (.mv (.k (.sc .nilIface)))⟩])
  (.seq (.seq (.reg [0, 4, 5, 6, 20] false [⟨(some 18), .always, .q (.mv (.t 0))⟩,
  ⟨(some 19), .always, .q (.lenL (.t 18))⟩,
  ⟨(some 20), .always, .q (.bin .neq .no true (.t 19) (.k (.sc (.int .i64 3))))⟩])
  (.cond (.t 20) (.seq (.regD [6, 7] [0, 0, 1, 7] [⟨(some 21), .always, .q (.build [(.sc (.slice none 0 0)), (.sc (.bool false))] [])⟩,
  ⟨(some 22), .always, .q (.load none (.k (.gl 4)))⟩,
  ⟨none, .always, .e (.sto 2 (.t 6) (.t 21))⟩,
  ⟨(some 7), .always, .q (.mv (.t 22))⟩])
  .ret)
  .skip))
  (.seq (.seq (.reg [0, 4, 5, 6, 25, 26, 27] false [⟨(some 23), .always, .q (.load (some 2) (.t 4))⟩,
  ⟨(some 24), .always, .q (.load (some 2) (.t 5))⟩,
  ⟨(some 25), .always, .e (.bsl false 26 [(.sc (.slice none 0 0)), (.sc (.bool false))] 2 2 [(0, 2, (.t 23)), (2, 2, (.t 24))])⟩,
  ⟨(some 26), .always, .q (.lenL (.t 25))⟩,
  ⟨(some 27), .always, .q (.mv (.k (.sc (.int .i64 0))))⟩])
  (.block 0 (.loop l61_0)))
  (.seq (.seq (.reg [0, 4, 5, 6, 66] true [⟨(some 38), .always, .q (.fa 0 (.t 4))⟩,
  ⟨(some 39), .always, .q (.load none (.t 38))⟩,
  ⟨(some 40), .always, .q (.lenL (.t 39))⟩,
  ⟨(some 41), .always, .q (.bin .neq .no true (.t 40) (.k (.sc (.int .i64 3))))⟩,
  ⟨(some 42), .always, .q (.mv (.t 41))⟩,
  ⟨(some 43), (.on 42 false), .q (.fa 0 (.t 5))⟩,
  ⟨(some 44), (.on 42 false), .q (.load none (.t 43))⟩,
  ⟨(some 45), (.on 42 false), .q (.lenL (.t 44))⟩,
  ⟨(some 46), (.on 42 false), .q (.bin .neq .no true (.t 45) (.k (.sc (.int .i64 4))))⟩,
  ⟨(some 47), .always, .q (.pick (.t 42) (.k (.sc (.bool true))) (.t 46))⟩,
  ⟨(some 48), .always, .q (.mv (.t 47))⟩,
  ⟨(some 49), (.on 48 false), .q (.fa 0 (.t 4))⟩,
  ⟨(some 50), (.on 48 false), .q (.load none (.t 49))⟩,
  ⟨(some 51), (.on 48 false), .q (.iaS 1 (.t 50) (.k (.sc (.int .i64 2))))⟩,
  ⟨(some 52), (.on 48 false), .q (.load none (.t 51))⟩,
  ⟨(some 53), (.on 48 false), .q (.fa 0 (.t 5))⟩,
  ⟨(some 54), (.on 48 false), .q (.load none (.t 53))⟩,
  ⟨(some 55), (.on 48 false), .q (.iaS 1 (.t 54) (.k (.sc (.int .i64 2))))⟩,
  ⟨(some 56), (.on 48 false), .q (.load none (.t 55))⟩,
  ⟨(some 57), (.on 48 false), .q (.bin .neq .no false (.t 52) (.t 56))⟩,
  ⟨(some 58), .always, .q (.pick (.t 48) (.k (.sc (.bool true))) (.t 57))⟩,
  ⟨(some 59), .always, .q (.mv (.t 58))⟩,
  ⟨(some 60), (.on 59 false), .q (.fa 1 (.t 4))⟩,
  ⟨(some 61), (.on 59 false), .q (.load none (.t 60))⟩,
  ⟨(some 62), .always, .q (.pick (.t 59) (.k (.sc (.bool true))) (.t 61))⟩,
  ⟨(some 63), .always, .q (.mv (.t 62))⟩,
  ⟨(some 64), (.on 63 false), .q (.fa 1 (.t 5))⟩,
  ⟨(some 65), (.on 63 false), .q (.load none (.t 64))⟩,
  ⟨(some 66), .always, .q (.pick (.t 63) (.k (.sc (.bool true))) (.t 65))⟩])
  (.cond (.t 66) (.seq (.regD [6, 7] [0, 0, 1, 7] [⟨(some 67), .always, .q (.build [(.sc (.slice none 0 0)), (.sc (.bool false))] [])⟩,
  ⟨(some 68), .always, .q (.load none (.k (.gl 4)))⟩,
  ⟨none, .always, .e (.sto 2 (.t 6) (.t 67))⟩,
  ⟨(some 7), .always, .q (.mv (.t 68))⟩])
  .ret)
  .skip))
  (.seq (.reg [4, 5, 6, 11, 12, 13] true [⟨(some 69), .always, .q (.mv (.t 0))⟩,
  ⟨(some 70), .always, .q (.iaS 1 (.t 69) (.k (.sc (.int .i64 0))))⟩,
  ⟨(some 71), .always, .q (.load none (.t 70))⟩,
  ⟨(some 72), .always, .q (.mv (.t 0))⟩,
  ⟨(some 73), .always, .q (.iaS 1 (.t 72) (.k (.sc (.int .i64 1))))⟩,
  ⟨(some 74), .always, .q (.load none (.t 73))⟩,
  ⟨(some 75), .always, .q (.mv (.t 0))⟩,
  ⟨(some 76), .always, .q (.iaS 1 (.t 75) (.k (.sc (.int .i64 2))))⟩,
  ⟨(some 77), .always, .q (.load none (.t 76))⟩,
  ⟨(some 11), .always, .q (.mv (.t 71))⟩,
  ⟨(some 12), .always, .q (.mv (.t 74))⟩,
  ⟨(some 13), .always, .q (.mv (.t 77))⟩])
  (.seq (.seq (.reg [4, 5, 6, 11, 12, 97] false [⟨(some 78), .always, .q (.mv (.t 11))⟩,
  ⟨(some 79), .always, .q (.bin .lss .no true (.t 78) (.k (.sc (.int .i64 1))))⟩,
  ⟨(some 80), .always, .q (.mv (.t 79))⟩,
  ⟨(some 81), (.on 80 false), .q (.mv (.t 11))⟩,
  ⟨(some 82), (.on 80 false), .q (.bin .gtr .no true (.t 81) (.k (.sc (.int .i64 16))))⟩,
  ⟨(some 83), .always, .q (.pick (.t 80) (.k (.sc (.bool true))) (.t 82))⟩,
  ⟨(some 84), .always, .q (.mv (.t 83))⟩,
  ⟨(some 85), (.on 84 false), .q (.mv (.t 12))⟩,
  ⟨(some 86), (.on 84 false), .q (.bin .lss .no true (.t 85) (.k (.sc (.int .i64 0))))⟩,
  ⟨(some 87), .always, .q (.pick (.t 84) (.k (.sc (.bool true))) (.t 86))⟩,
  ⟨(some 88), .always, .q (.mv (.t 87))⟩,
  ⟨(some 89), (.on 88 false), .q (.mv (.t 12))⟩,
  ⟨(some 90), (.on 88 false), .q (.bin .gtr .no true (.t 89) (.k (.sc (.int .i64 15))))⟩,
  ⟨(some 91), .always, .q (.pick (.t 88) (.k (.sc (.bool true))) (.t 90))⟩,
  ⟨(some 92), .always, .q (.mv (.t 91))⟩,
  ⟨(some 93), (.on 92 false), .q (.mv (.t 13))⟩,
  ⟨(some 94), (.on 92 false), .call (.k (.fn 81 [] [])) [(.t 93)]⟩,
  ⟨(some 95), (.on 92 false), .q (.mv (.t 13))⟩,
  ⟨(some 96), (.on 92 false), .q (.bin .neq .no false (.t 94) (.t 95))⟩,
  ⟨(some 97), .always, .q (.pick (.t 92) (.k (.sc (.bool true))) (.t 96))⟩])
  (.cond (.t 97) (.seq (.regD [6, 7] [0, 0, 1, 7] [⟨(some 98), .always, .q (.build [(.sc (.slice none 0 0)), (.sc (.bool false))] [])⟩,
  ⟨(some 99), .always, .q (.load none (.k (.gl 5)))⟩,
  ⟨none, .always, .e (.sto 2 (.t 6) (.t 98))⟩,
  ⟨(some 7), .always, .q (.mv (.t 99))⟩])
  .ret)
  .skip))
  (.seq (.reg [5, 6, 11, 14, 15] true [⟨(some 100), .always, .q (.fa 0 (.t 4))⟩,
  ⟨(some 101), .always, .q (.load none (.t 100))⟩,
  ⟨(some 102), .always, .q (.iaS 1 (.t 101) (.k (.sc (.int .i64 0))))⟩,
  ⟨(some 103), .always, .q (.load none (.t 102))⟩,
  ⟨(some 104), .always, .q (.mv (.t 12))⟩,
  ⟨(some 105), .always, .q (.bin .mul .no true (.k (.sc (.int .i64 2))) (.t 104))⟩,
  ⟨(some 106), .always, .q (.bin .add .no false (.t 103) (.t 105))⟩,
  ⟨(some 107), .always, .q (.fa 0 (.t 5))⟩,
  ⟨(some 108), .always, .q (.load none (.t 107))⟩,
  ⟨(some 109), .always, .q (.iaS 1 (.t 108) (.k (.sc (.int .i64 0))))⟩,
  ⟨(some 110), .always, .q (.load none (.t 109))⟩,
  ⟨(some 111), .always, .q (.bin .sub .no false (.t 106) (.t 110))⟩,
  ⟨(some 112), .always, .q (.fa 0 (.t 4))⟩,
  ⟨(some 113), .always, .q (.load none (.t 112))⟩,
  ⟨(some 114), .always, .q (.iaS 1 (.t 113) (.k (.sc (.int .i64 1))))⟩,
  ⟨(some 115), .always, .q (.load none (.t 114))⟩,
  ⟨(some 116), .always, .q (.mv (.t 12))⟩,
  ⟨(some 117), .always, .q (.bin .mul .no true (.k (.sc (.int .i64 2))) (.t 116))⟩,
  ⟨(some 118), .always, .q (.bin .add .no false (.t 115) (.t 117))⟩,
  ⟨(some 119), .always, .q (.fa 0 (.t 5))⟩,
  ⟨(some 120), .always, .q (.load none (.t 119))⟩,
  ⟨(some 121), .always, .q (.iaS 1 (.t 120) (.k (.sc (.int .i64 1))))⟩,
  ⟨(some 122), .always, .q (.load none (.t 121))⟩,
  ⟨(some 123), .always, .q (.bin .sub .no false (.t 118) (.t 122))⟩,
  ⟨(some 14), .always, .q (.mv (.t 111))⟩,
  ⟨(some 15), .always, .q (.mv (.t 123))⟩])
  (.seq (.seq (.reg [5, 6, 11, 14, 15, 129] false [⟨(some 124), .always, .q (.mv (.t 14))⟩,
  ⟨(some 125), .always, .q (.bin .lss .no true (.t 124) (.k (.sc (.int .i64 0))))⟩,
  ⟨(some 126), .always, .q (.mv (.t 125))⟩,
  ⟨(some 127), (.on 126 false), .q (.mv (.t 15))⟩,
  ⟨(some 128), (.on 126 false), .q (.bin .lss .no true (.t 127) (.k (.sc (.int .i64 0))))⟩,
  ⟨(some 129), .always, .q (.pick (.t 126) (.k (.sc (.bool true))) (.t 128))⟩])
  (.cond (.t 129) (.seq (.regD [6, 7] [0, 0, 1, 7] [⟨(some 130), .always, .q (.build [(.sc (.slice none 0 0)), (.sc (.bool false))] [])⟩,
  ⟨(some 131), .always, .q (.load none (.k (.gl 4)))⟩,
  ⟨none, .always, .e (.sto 2 (.t 6) (.t 130))⟩,
  ⟨(some 7), .always, .q (.mv (.t 131))⟩])
  .ret)
  .skip))
  (.seq (.regD [6, 16] [0, 0, 3, 7, 0, 0, 48, 112, 0, 256, 768, 1792, 4095, 8191, 0, 32767] [⟨(some 132), .always, .q (.mv (.t 14))⟩,
  ⟨(some 133), .always, .q (.mv (.t 11))⟩,
  ⟨(some 134), .always, .q (.bin .quo .no false (.t 132) (.t 133))⟩,
  ⟨(some 135), .always, .q (.bin .add .no true (.t 134) (.k (.sc (.int .i64 1))))⟩,
  ⟨(some 136), .always, .q (.mv (.t 15))⟩,
  ⟨(some 137), .always, .q (.mv (.t 11))⟩,
  ⟨(some 138), .always, .q (.bin .quo .no false (.t 136) (.t 137))⟩,
  ⟨(some 139), .always, .q (.bin .add .no true (.t 138) (.k (.sc (.int .i64 1))))⟩,
  ⟨(some 140), .always, .q (.fa 0 (.t 5))⟩,
  ⟨(some 141), .always, .q (.load none (.t 140))⟩,
  ⟨(some 142), .always, .q (.iaS 1 (.t 141) (.k (.sc (.int .i64 3))))⟩,
  ⟨(some 143), .always, .q (.load none (.t 142))⟩,
  ⟨(some 144), .always, .e (.bsl false 3 [(.sc (.int .i64 0))] 1 3 [(0, 1, (.t 135)), (1, 1, (.t 139)), (2, 1, (.t 143))])⟩,
  ⟨(some 145), .always, .q (.build [(.sc (.slice none 0 0)), (.sc (.bool false))] [(0, 1, (.t 144)), (1, 1, (.k (.sc (.bool true))))])⟩,
  ⟨(some 16), .always, .e (.new 16 26 true [(.sc (.slice none 0 0)), (.sc (.bool false))])⟩,
  ⟨none, .always, .e (.sto 2 (.t 16) (.t 145))⟩])
  (.seq (.seq (.reg [6, 16, 17] false [⟨(some 146), .always, .q (.load (some 2) (.t 16))⟩,
  ⟨(some 147), .always, .call (.k (.fn 51 [] [])) [(.t 146)]⟩,
  ⟨(some 17), .always, .q (.mv (.t 147))⟩])
  (.seq (.reg [6, 16, 17, 149] false [⟨(some 148), .always, .q (.mv (.t 17))⟩,
  ⟨(some 149), .always, .q (.bin .neq .iface true (.t 148) (.k (.sc .nilIface)))⟩])
  (.cond (.t 149) (.seq (.reg [6, 7] false [⟨(some 150), .always, .q (.build [(.sc (.slice none 0 0)), (.sc (.bool false))] [])⟩,
  ⟨(some 151), .always, .q (.mv (.t 17))⟩,
  ⟨none, .always, .e (.sto 2 (.t 6) (.t 150))⟩,
  ⟨(some 7), .always, .q (.mv (.t 151))⟩])
  .ret)
  .skip)))
  (.seq (.reg [6, 7] false [⟨(some 152), .always, .q (.load (some 2) (.t 16))⟩,
  ⟨none, .always, .e (.sto 2 (.t 6) (.t 152))⟩,
  ⟨(some 7), .always, .q (.mv (.k (.sc .nilIface)))⟩])
  .ret)))))))))))
/-! 62 lodge/pool.Result: 2 params, 2 results, 86 -/
def x62 : XC := (.seq (.reg [0, 3, 4] false [⟨(some 3), .always, .e (.box 3 26 true 2 (.t 1))⟩,
  ⟨(some 4), .always, .e (.new 4 26 true [(.sc (.slice none 0 0)), (.sc (.bool false))])⟩,
  ⟨(some 5), .always, .q (.mv (.k (.sc .nilIface)))⟩])
  (.seq (.seq (.reg [0, 3, 4, 13] false [⟨(some 11), .always, .q (.mv (.t 0))⟩,
  ⟨(some 12), .always, .q (.lenL (.t 11))⟩,
  ⟨(some 13), .always, .q (.bin .neq .no true (.t 12) (.k (.sc (.int .i64 2))))⟩])
  (.cond (.t 13) (.seq (.regD [4, 5] [0, 0, 1, 7] [⟨(some 14), .always, .q (.build [(.sc (.slice none 0 0)), (.sc (.bool false))] [])⟩,
  ⟨(some 15), .always, .q (.load none (.k (.gl 4)))⟩,
  ⟨none, .always, .e (.sto 2 (.t 4) (.t 14))⟩,
  ⟨(some 5), .always, .q (.mv (.t 15))⟩])
  .ret)
  .skip))
  (.seq (.seq (.reg [0, 3, 4, 6] false [⟨(some 16), .always, .q (.load (some 2) (.t 3))⟩,
  ⟨(some 17), .always, .call (.k (.fn 51 [] [])) [(.t 16)]⟩,
  ⟨(some 6), .always, .q (.mv (.t 17))⟩])
  (.seq (.reg [0, 3, 4, 6, 19] false [⟨(some 18), .always, .q (.mv (.t 6))⟩,
  ⟨(some 19), .always, .q (.bin .neq .iface true (.t 18) (.k (.sc .nilIface)))⟩])
  (.cond (.t 19) (.seq (.reg [4, 5] false [⟨(some 20), .always, .q (.build [(.sc (.slice none 0 0)), (.sc (.bool false))] [])⟩,
  ⟨(some 21), .always, .q (.mv (.t 6))⟩,
  ⟨none, .always, .e (.sto 2 (.t 4) (.t 20))⟩,
  ⟨(some 5), .always, .q (.mv (.t 21))⟩])
  .ret)
  .skip)))
  (.seq (.seq (.reg [0, 3, 4, 25] false [⟨(some 22), .always, .q (.fa 0 (.t 3))⟩,
  ⟨(some 23), .always, .q (.load none (.t 22))⟩,
  ⟨(some 24), .always, .q (.lenL (.t 23))⟩,
  ⟨(some 25), .always, .q (.bin .neq .no true (.t 24) (.k (.sc (.int .i64 3))))⟩])
  (.cond (.t 25) (.seq (.regD [4, 5] [0, 0, 1, 7] [⟨(some 26), .always, .q (.build [(.sc (.slice none 0 0)), (.sc (.bool false))] [])⟩,
  ⟨(some 27), .always, .q (.load none (.k (.gl 4)))⟩,
  ⟨none, .always, .e (.sto 2 (.t 4) (.t 26))⟩,
  ⟨(some 5), .always, .q (.mv (.t 27))⟩])
  .ret)
  .skip))
  (.seq (.reg [3, 4, 7, 8] true [⟨(some 28), .always, .q (.mv (.t 0))⟩,
  ⟨(some 29), .always, .q (.iaS 1 (.t 28) (.k (.sc (.int .i64 0))))⟩,
  ⟨(some 30), .always, .q (.load none (.t 29))⟩,
  ⟨(some 31), .always, .q (.mv (.t 0))⟩,
  ⟨(some 32), .always, .q (.iaS 1 (.t 31) (.k (.sc (.int .i64 1))))⟩,
  ⟨(some 33), .always, .q (.load none (.t 32))⟩,
  ⟨(some 7), .always, .q (.mv (.t 30))⟩,
  ⟨(some 8), .always, .q (.mv (.t 33))⟩])
  (.seq (.seq (.reg [3, 4, 7, 8, 47] false [⟨(some 34), .always, .q (.mv (.t 7))⟩,
  ⟨(some 35), .always, .q (.bin .lss .no true (.t 34) (.k (.sc (.int .i64 1))))⟩,
  ⟨(some 36), .always, .q (.mv (.t 35))⟩,
  ⟨(some 37), (.on 36 false), .q (.mv (.t 7))⟩,
  ⟨(some 38), (.on 36 false), .q (.bin .gtr .no true (.t 37) (.k (.sc (.int .i64 16))))⟩,
  ⟨(some 39), .always, .q (.pick (.t 36) (.k (.sc (.bool true))) (.t 38))⟩,
  ⟨(some 40), .always, .q (.mv (.t 39))⟩,
  ⟨(some 41), (.on 40 false), .q (.mv (.t 8))⟩,
  ⟨(some 42), (.on 40 false), .q (.bin .lss .no true (.t 41) (.k (.sc (.int .i64 1))))⟩,
  ⟨(some 43), .always, .q (.pick (.t 40) (.k (.sc (.bool true))) (.t 42))⟩,
  ⟨(some 44), .always, .q (.mv (.t 43))⟩,
  ⟨(some 45), (.on 44 false), .q (.mv (.t 8))⟩,
  ⟨(some 46), (.on 44 false), .q (.bin .gtr .no true (.t 45) (.k (.sc (.int .i64 16))))⟩,
  ⟨(some 47), .always, .q (.pick (.t 44) (.k (.sc (.bool true))) (.t 46))⟩])
  (.cond (.t 47) (.seq (.regD [4, 5] [0, 0, 1, 7] [⟨(some 48), .always, .q (.build [(.sc (.slice none 0 0)), (.sc (.bool false))] [])⟩,
  ⟨(some 49), .always, .q (.load none (.k (.gl 5)))⟩,
  ⟨none, .always, .e (.sto 2 (.t 4) (.t 48))⟩,
  ⟨(some 5), .always, .q (.mv (.t 49))⟩])
  .ret)
  .skip))
  (.seq (.reg [3, 4, 8, 9, 10] true [⟨(some 50), .always, .q (.fa 0 (.t 3))⟩,
  ⟨(some 51), .always, .q (.load none (.t 50))⟩,
  ⟨(some 52), .always, .q (.iaS 1 (.t 51) (.k (.sc (.int .i64 0))))⟩,
  ⟨(some 53), .always, .q (.load none (.t 52))⟩,
  ⟨(some 54), .always, .q (.mv (.t 7))⟩,
  ⟨(some 55), .always, .q (.bin .sub .no false (.t 53) (.t 54))⟩,
  ⟨(some 56), .always, .q (.fa 0 (.t 3))⟩,
  ⟨(some 57), .always, .q (.load none (.t 56))⟩,
  ⟨(some 58), .always, .q (.iaS 1 (.t 57) (.k (.sc (.int .i64 1))))⟩,
  ⟨(some 59), .always, .q (.load none (.t 58))⟩,
  ⟨(some 60), .always, .q (.mv (.t 7))⟩,
  ⟨(some 61), .always, .q (.bin .sub .no false (.t 59) (.t 60))⟩,
  ⟨(some 9), .always, .q (.mv (.t 55))⟩,
  ⟨(some 10), .always, .q (.mv (.t 61))⟩])
  (.seq (.seq (.reg [3, 4, 8, 9, 10, 67] false [⟨(some 62), .always, .q (.mv (.t 9))⟩,
  ⟨(some 63), .always, .q (.bin .lss .no true (.t 62) (.k (.sc (.int .i64 0))))⟩,
  ⟨(some 64), .always, .q (.mv (.t 63))⟩,
  ⟨(some 65), (.on 64 false), .q (.mv (.t 10))⟩,
  ⟨(some 66), (.on 64 false), .q (.bin .lss .no true (.t 65) (.k (.sc (.int .i64 0))))⟩,
  ⟨(some 67), .always, .q (.pick (.t 64) (.k (.sc (.bool true))) (.t 66))⟩])
  (.cond (.t 67) (.seq (.regD [4, 5] [0, 0, 1, 7] [⟨(some 68), .always, .q (.build [(.sc (.slice none 0 0)), (.sc (.bool false))] [])⟩,
  ⟨(some 69), .always, .q (.load none (.k (.gl 4)))⟩,
  ⟨none, .always, .e (.sto 2 (.t 4) (.t 68))⟩,
  ⟨(some 5), .always, .q (.mv (.t 69))⟩])
  .ret)
  .skip))
  (.seq (.regD [4, 5] [0, 0, 3, 7, 0, 0, 48, 112, 0, 256, 768, 1792, 4095, 0, 8192, 32767, 65535, 131071] [⟨(some 70), .always, .q (.mv (.t 9))⟩,
  ⟨(some 71), .always, .q (.mv (.t 8))⟩,
  ⟨(some 72), .always, .q (.bin .quo .no false (.t 70) (.t 71))⟩,
  ⟨(some 73), .always, .q (.bin .add .no true (.t 72) (.k (.sc (.int .i64 1))))⟩,
  ⟨(some 74), .always, .q (.mv (.t 10))⟩,
  ⟨(some 75), .always, .q (.mv (.t 8))⟩,
  ⟨(some 76), .always, .q (.bin .quo .no false (.t 74) (.t 75))⟩,
  ⟨(some 77), .always, .q (.bin .add .no true (.t 76) (.k (.sc (.int .i64 1))))⟩,
  ⟨(some 78), .always, .q (.fa 0 (.t 3))⟩,
  ⟨(some 79), .always, .q (.load none (.t 78))⟩,
  ⟨(some 80), .always, .q (.iaS 1 (.t 79) (.k (.sc (.int .i64 2))))⟩,
  ⟨(some 81), .always, .q (.load none (.t 80))⟩,
  ⟨(some 82), .always, .e (.bsl false 3 [(.sc (.int .i64 0))] 1 3 [(0, 1, (.t 73)), (1, 1, (.t 77)), (2, 1, (.t 81))])⟩,
  ⟨(some 83), .always, .q (.fa 1 (.t 3))⟩,
  ⟨(some 84), .always, .q (.load none (.t 83))⟩,
  ⟨(some 85), .always, .q (.build [(.sc (.slice none 0 0)), (.sc (.bool false))] [(0, 1, (.t 82)), (1, 1, (.t 84))])⟩,
  ⟨none, .always, .e (.sto 2 (.t 4) (.t 85))⟩,
  ⟨(some 5), .always, .q (.mv (.k (.sc .nilIface)))⟩])
  .ret)))))))))
/-! 63 lodge/soft.Result: 2 params, 2 results, 58 -/
def b63_0 : XC := (.seq (.reg [0, 1, 4, 28, 29, 30, 31] false [⟨(some 31), .always, .q (.bin .lss .no false (.t 30) (.t 29))⟩])
  (.seq (.cond (.t 31) .skip
  (.exit 1))
  (.seq (.block 2 (.seq (.reg [0, 1, 4, 8, 28, 29, 30] false [⟨(some 32), .always, .q (.iaS 2 (.t 28) (.t 30))⟩,
  ⟨(some 33), .always, .q (.load (some 2) (.t 32))⟩,
  ⟨(some 8), .always, .e (.new 8 26 true [(.sc (.slice none 0 0)), (.sc (.bool false))])⟩,
  ⟨none, .always, .e (.sto 2 (.t 8) (.t 33))⟩])
  (.seq (.reg [0, 1, 4, 9, 28, 29, 30] false [⟨(some 34), .always, .q (.load (some 2) (.t 8))⟩,
  ⟨(some 35), .always, .call (.k (.fn 51 [] [])) [(.t 34)]⟩,
  ⟨(some 9), .always, .q (.mv (.t 35))⟩])
  (.seq (.reg [0, 1, 4, 9, 28, 29, 30, 37] false [⟨(some 36), .always, .q (.mv (.t 9))⟩,
  ⟨(some 37), .always, .q (.bin .neq .iface true (.t 36) (.k (.sc .nilIface)))⟩])
  (.cond (.t 37) (.seq (.reg [4, 5] false [⟨(some 38), .always, .q (.build [(.sc (.slice none 0 0)), (.sc (.bool false))] [])⟩,
  ⟨(some 39), .always, .q (.mv (.t 9))⟩,
  ⟨none, .always, .e (.sto 2 (.t 4) (.t 38))⟩,
  ⟨(some 5), .always, .q (.mv (.t 39))⟩])
  .ret)
  .skip)))))
  (.reg [0, 1, 4, 28, 29, 30] false [⟨(some 40), .always, .q (.bin .add .no true (.t 30) (.k (.sc (.int .i64 1))))⟩,
  ⟨(some 30), .always, .q (.mv (.t 40))⟩]))))
def l63_0 : XC := b63_0
theorem xl63_0 {E : Env} {Q : AX → St → Prop} {s : St} : xp E l63_0 s Q = xp E b63_0 s Q := rfl
def x63 : XC := (.seq (.reg [0, 1, 4] false [⟨(some 4), .always, .e (.new 4 26 true [(.sc (.slice none 0 0)), (.sc (.bool false))])⟩,
  ⟨(some 5), .always, .q (.mv (.k (.sc .nilIface)))⟩])
  (.seq (.reg [0, 1, 4, 6] false [⟨(some 6), .always, .q (.mv (.k (.sc (.int .i64 1))))⟩])
  (.seq (.seq (.reg [0, 1, 4, 6, 13] false [⟨(some 13), .always, .q (.mv (.t 0))⟩])
  (.block 0 (.seq (.seq (.reg [0, 1, 4, 6, 13, 16] false [⟨(some 17), .always, .q (.bin .eql .no true (.t 13) (.k (.sc (.int .i64 19))))⟩,
  ⟨(some 16), .always, .q (.mv (.t 17))⟩])
  (.cond (.t 16) .skip
  (.reg [0, 1, 4, 6, 13, 16] false [⟨(some 18), .always, .q (.bin .eql .no true (.t 13) (.k (.sc (.int .i64 20))))⟩,
  ⟨(some 16), .always, .q (.mv (.t 18))⟩])))
  (.cond (.t 16) .skip
  (.seq (.seq (.reg [0, 1, 4, 13, 19] false [⟨(some 20), .always, .q (.bin .eql .no true (.t 13) (.k (.sc (.int .i64 16))))⟩,
  ⟨(some 19), .always, .q (.mv (.t 20))⟩])
  (.cond (.t 19) .skip
  (.reg [0, 1, 4, 19] false [⟨(some 21), .always, .q (.bin .eql .no true (.t 13) (.k (.sc (.int .i64 17))))⟩,
  ⟨(some 19), .always, .q (.mv (.t 21))⟩])))
  (.cond (.t 19) (.reg [0, 1, 4, 6] false [⟨(some 6), .always, .q (.mv (.k (.sc (.int .i64 2))))⟩])
  (.seq (.regD [4, 5] [0, 0, 1, 7] [⟨(some 14), .always, .q (.build [(.sc (.slice none 0 0)), (.sc (.bool false))] [])⟩,
  ⟨(some 15), .always, .q (.load none (.k (.gl 3)))⟩,
  ⟨none, .always, .e (.sto 2 (.t 4) (.t 14))⟩,
  ⟨(some 5), .always, .q (.mv (.t 15))⟩])
  .ret)))))))
  (.seq (.seq (.reg [0, 1, 4, 25] false [⟨(some 22), .always, .q (.mv (.t 1))⟩,
  ⟨(some 23), .always, .q (.lenL (.t 22))⟩,
  ⟨(some 24), .always, .q (.mv (.t 6))⟩,
  ⟨(some 25), .always, .q (.bin .neq .no false (.t 23) (.t 24))⟩])
  (.cond (.t 25) (.seq (.regD [4, 5] [0, 0, 1, 7] [⟨(some 26), .always, .q (.build [(.sc (.slice none 0 0)), (.sc (.bool false))] [])⟩,
  ⟨(some 27), .always, .q (.load none (.k (.gl 4)))⟩,
  ⟨none, .always, .e (.sto 2 (.t 4) (.t 26))⟩,
  ⟨(some 5), .always, .q (.mv (.t 27))⟩])
  .ret)
  .skip))
  (.seq (.seq (.reg [0, 1, 4, 28, 29, 30] false [⟨(some 28), .always, .q (.mv (.t 1))⟩,
  ⟨(some 29), .always, .q (.lenL (.t 28))⟩,
  ⟨(some 30), .always, .q (.mv (.k (.sc (.int .i64 0))))⟩])
  (.block 1 (.loop l63_0)))
  (.seq (.reg [4, 10, 11] false [⟨(some 42), .always, .q (.mv (.t 0))⟩,
  ⟨(some 43), .always, .q (.mv (.t 1))⟩,
  ⟨(some 44), .always, .call (.k (.fn 82 [] [])) [(.t 42), (.t 43)]⟩,
  ⟨(some 41), .always, .q (.mv (.t 44))⟩,
  ⟨(some 45), .always, .q (.ext (.t 41) 0)⟩,
  ⟨(some 46), .always, .q (.ext (.t 41) 1)⟩,
  ⟨(some 10), .always, .e (.new 10 26 true [(.sc (.slice none 0 0)), (.sc (.bool false))])⟩,
  ⟨none, .always, .e (.sto 2 (.t 10) (.t 45))⟩,
  ⟨(some 11), .always, .q (.mv (.t 46))⟩])
  (.seq (.seq (.reg [4, 10, 48] false [⟨(some 47), .always, .q (.mv (.t 11))⟩,
  ⟨(some 48), .always, .q (.not (.t 47))⟩])
  (.cond (.t 48) (.seq (.regD [4, 5] [0, 0, 1, 7] [⟨(some 49), .always, .q (.build [(.sc (.slice none 0 0)), (.sc (.bool false))] [])⟩,
  ⟨(some 50), .always, .q (.load none (.k (.gl 4)))⟩,
  ⟨none, .always, .e (.sto 2 (.t 4) (.t 49))⟩,
  ⟨(some 5), .always, .q (.mv (.t 50))⟩])
  .ret)
  .skip))
  (.seq (.seq (.reg [4, 10, 12] false [⟨(some 51), .always, .q (.load (some 2) (.t 10))⟩,
  ⟨(some 52), .always, .call (.k (.fn 51 [] [])) [(.t 51)]⟩,
  ⟨(some 12), .always, .q (.mv (.t 52))⟩])
  (.seq (.reg [4, 10, 12, 54] false [⟨(some 53), .always, .q (.mv (.t 12))⟩,
  ⟨(some 54), .always, .q (.bin .neq .iface true (.t 53) (.k (.sc .nilIface)))⟩])
  (.cond (.t 54) (.seq (.reg [4, 5] false [⟨(some 55), .always, .q (.build [(.sc (.slice none 0 0)), (.sc (.bool false))] [])⟩,
  ⟨(some 56), .always, .q (.mv (.t 12))⟩,
  ⟨none, .always, .e (.sto 2 (.t 4) (.t 55))⟩,
  ⟨(some 5), .always, .q (.mv (.t 56))⟩])
  .ret)
  .skip)))
  (.seq (.reg [4, 5] false [⟨(some 57), .always, .q (.load (some 2) (.t 10))⟩,
  ⟨none, .always, .e (.sto 2 (.t 4) (.t 57))⟩,
  ⟨(some 5), .always, .q (.mv (.k (.sc .nilIface)))⟩])
  .ret)))))))))
/-! 64 lodge/op.reshape: 2 params, 2 results, 39 -/
def b64_0 : XC := (.seq (.reg [0, 3, 4, 6, 17, 18, 19, 20] false [⟨(some 20), .always, .q (.bin .lss .no false (.t 19) (.t 18))⟩])
  (.seq (.cond (.t 20) .skip
  (.exit 0))
  (.seq (.block 1 (.seq (.reg [0, 3, 4, 6, 8, 17, 18, 19] false [⟨(some 21), .always, .q (.iaS 2 (.t 17) (.t 19))⟩,
  ⟨(some 22), .always, .q (.load (some 2) (.t 21))⟩,
  ⟨(some 8), .always, .e (.new 8 26 true [(.sc (.slice none 0 0)), (.sc (.bool false))])⟩,
  ⟨none, .always, .e (.sto 2 (.t 8) (.t 22))⟩])
  (.seq (.reg [0, 3, 4, 6, 9, 17, 18, 19] false [⟨(some 23), .always, .q (.load (some 2) (.t 8))⟩,
  ⟨(some 24), .always, .call (.k (.fn 51 [] [])) [(.t 23)]⟩,
  ⟨(some 9), .always, .q (.mv (.t 24))⟩])
  (.seq (.reg [0, 3, 4, 6, 9, 17, 18, 19, 26] false [⟨(some 25), .always, .q (.mv (.t 9))⟩,
  ⟨(some 26), .always, .q (.bin .neq .iface true (.t 25) (.k (.sc .nilIface)))⟩])
  (.cond (.t 26) (.seq (.reg [4, 5] false [⟨(some 27), .always, .q (.build [(.sc (.slice none 0 0)), (.sc (.bool false))] [])⟩,
  ⟨(some 28), .always, .q (.mv (.t 9))⟩,
  ⟨none, .always, .e (.sto 2 (.t 4) (.t 27))⟩,
  ⟨(some 5), .always, .q (.mv (.t 28))⟩])
  .ret)
  .skip)))))
  (.reg [0, 3, 4, 6, 17, 18, 19] false [⟨(some 29), .always, .q (.bin .add .no true (.t 19) (.k (.sc (.int .i64 1))))⟩,
  ⟨(some 19), .always, .q (.mv (.t 29))⟩]))))
def l64_0 : XC := b64_0
theorem xl64_0 {E : Env} {Q : AX → St → Prop} {s : St} : xp E l64_0 s Q = xp E b64_0 s Q := rfl
def x64 : XC := (.seq (.reg [0, 3, 4] false [⟨(some 3), .always, .e (.box 3 26 true 2 (.t 1))⟩,
  ⟨(some 4), .always, .e (.new 4 26 true [(.sc (.slice none 0 0)), (.sc (.bool false))])⟩,
  ⟨(some 5), .always, .q (.mv (.k (.sc .nilIface)))⟩])
  (.seq (.regD [0, 3, 4, 6] [0, 1, 0, 4, 15, 0, 63] [⟨(some 10), .always, .q (.mv (.t 0))⟩,
  ⟨(some 11), .always, .call (.k (.fn 70 [] [])) [(.t 10)]⟩,
  ⟨(some 12), .always, .q (.fa 1 (.t 3))⟩,
  ⟨(some 13), .always, .q (.load none (.t 12))⟩,
  ⟨(some 14), .always, .q (.build [(.sc (.slice none 0 0)), (.sc (.bool false))] [(0, 1, (.t 11)), (1, 1, (.t 13))])⟩,
  ⟨(some 6), .always, .e (.new 6 26 true [(.sc (.slice none 0 0)), (.sc (.bool false))])⟩,
  ⟨none, .always, .e (.sto 2 (.t 6) (.t 14))⟩])
  (.seq (.seq (.reg [0, 3, 4, 6, 17, 18, 19] false [⟨(some 15), .always, .q (.load (some 2) (.t 3))⟩,
  ⟨(some 16), .always, .q (.load (some 2) (.t 6))⟩,
  ⟨(some 17), .always, .e (.bsl false 26 [(.sc (.slice none 0 0)), (.sc (.bool false))] 2 2 [(0, 2, (.t 15)), (2, 2, (.t 16))])⟩,
  ⟨(some 18), .always, .q (.lenL (.t 17))⟩,
  ⟨(some 19), .always, .q (.mv (.k (.sc (.int .i64 0))))⟩])
  (.block 0 (.loop l64_0)))
  (.seq (.seq (.reg [4, 6, 35] false [⟨(some 30), .always, .q (.fa 0 (.t 3))⟩,
  ⟨(some 31), .always, .q (.load none (.t 30))⟩,
  ⟨(some 32), .always, .call (.k (.fn 50 [] [])) [(.t 31)]⟩,
  ⟨(some 33), .always, .q (.mv (.t 0))⟩,
  ⟨(some 34), .always, .call (.k (.fn 50 [] [])) [(.t 33)]⟩,
  ⟨(some 35), .always, .q (.bin .neq .no false (.t 32) (.t 34))⟩])
  (.cond (.t 35) (.seq (.regD [4, 5] [0, 0, 1, 7] [⟨(some 36), .always, .q (.build [(.sc (.slice none 0 0)), (.sc (.bool false))] [])⟩,
  ⟨(some 37), .always, .q (.load none (.k (.gl 4)))⟩,
  ⟨none, .always, .e (.sto 2 (.t 4) (.t 36))⟩,
  ⟨(some 5), .always, .q (.mv (.t 37))⟩])
  .ret)
  .skip))
  (.seq (.reg [4, 5] false [⟨(some 38), .always, .q (.load (some 2) (.t 6))⟩,
  ⟨none, .always, .e (.sto 2 (.t 4) (.t 38))⟩,
  ⟨(some 5), .always, .q (.mv (.k (.sc .nilIface)))⟩])
  .ret)))))
/-! 65 lodge/op.turn: 1 params, 2 results, 29 -/
def x65 : XC := (.seq (.reg [1, 2] false [⟨(some 1), .always, .e (.box 1 26 true 2 (.t 0))⟩,
  ⟨(some 2), .always, .e (.new 2 26 true [(.sc (.slice none 0 0)), (.sc (.bool false))])⟩,
  ⟨(some 3), .always, .q (.mv (.k (.sc .nilIface)))⟩])
  (.seq (.seq (.reg [1, 2, 4] false [⟨(some 5), .always, .q (.load (some 2) (.t 1))⟩,
  ⟨(some 6), .always, .call (.k (.fn 51 [] [])) [(.t 5)]⟩,
  ⟨(some 4), .always, .q (.mv (.t 6))⟩])
  (.seq (.reg [1, 2, 4, 8] false [⟨(some 7), .always, .q (.mv (.t 4))⟩,
  ⟨(some 8), .always, .q (.bin .neq .iface true (.t 7) (.k (.sc .nilIface)))⟩])
  (.cond (.t 8) (.seq (.reg [2, 3] false [⟨(some 9), .always, .q (.build [(.sc (.slice none 0 0)), (.sc (.bool false))] [])⟩,
  ⟨(some 10), .always, .q (.mv (.t 4))⟩,
  ⟨none, .always, .e (.sto 2 (.t 2) (.t 9))⟩,
  ⟨(some 3), .always, .q (.mv (.t 10))⟩])
  .ret)
  .skip)))
  (.seq (.seq (.reg [1, 2, 14] false [⟨(some 11), .always, .q (.fa 0 (.t 1))⟩,
  ⟨(some 12), .always, .q (.load none (.t 11))⟩,
  ⟨(some 13), .always, .q (.lenL (.t 12))⟩,
  ⟨(some 14), .always, .q (.bin .neq .no true (.t 13) (.k (.sc (.int .i64 2))))⟩])
  (.cond (.t 14) (.seq (.regD [2, 3] [0, 0, 1, 7] [⟨(some 15), .always, .q (.build [(.sc (.slice none 0 0)), (.sc (.bool false))] [])⟩,
  ⟨(some 16), .always, .q (.load none (.k (.gl 4)))⟩,
  ⟨none, .always, .e (.sto 2 (.t 2) (.t 15))⟩,
  ⟨(some 3), .always, .q (.mv (.t 16))⟩])
  .ret)
  .skip))
  (.seq (.regD [2, 3] [0, 1, 3, 7, 0, 16, 48, 112, 255, 0, 512, 2047, 4095, 8191] [⟨(some 17), .always, .q (.fa 0 (.t 1))⟩,
  ⟨(some 18), .always, .q (.load none (.t 17))⟩,
  ⟨(some 19), .always, .q (.iaS 1 (.t 18) (.k (.sc (.int .i64 1))))⟩,
  ⟨(some 20), .always, .q (.load none (.t 19))⟩,
  ⟨(some 21), .always, .q (.fa 0 (.t 1))⟩,
  ⟨(some 22), .always, .q (.load none (.t 21))⟩,
  ⟨(some 23), .always, .q (.iaS 1 (.t 22) (.k (.sc (.int .i64 0))))⟩,
  ⟨(some 24), .always, .q (.load none (.t 23))⟩,
  ⟨(some 25), .always, .e (.bsl false 3 [(.sc (.int .i64 0))] 1 2 [(0, 1, (.t 20)), (1, 1, (.t 24))])⟩,
  ⟨(some 26), .always, .q (.fa 1 (.t 1))⟩,
  ⟨(some 27), .always, .q (.load none (.t 26))⟩,
  ⟨(some 28), .always, .q (.build [(.sc (.slice none 0 0)), (.sc (.bool false))] [(0, 1, (.t 25)), (1, 1, (.t 27))])⟩,
  ⟨none, .always, .e (.sto 2 (.t 2) (.t 28))⟩,
  ⟨(some 3), .always, .q (.mv (.k (.sc .nilIface)))⟩])
  .ret))))
/-! 66 lodge/elem.Result: 3 params, 2 results, 146 -/
def b66_0 : XC := (.seq (.reg [0, 1, 2, 6, 8, 40, 41, 42, 43] false [⟨(some 43), .always, .q (.bin .lss .no false (.t 42) (.t 41))⟩])
  (.seq (.cond (.t 43) .skip
  (.exit 0))
  (.seq (.block 1 (.seq (.reg [0, 1, 2, 6, 8, 12, 40, 41, 42] false [⟨(some 44), .always, .q (.iaS 2 (.t 40) (.t 42))⟩,
  ⟨(some 45), .always, .q (.load (some 2) (.t 44))⟩,
  ⟨(some 12), .always, .e (.new 12 26 true [(.sc (.slice none 0 0)), (.sc (.bool false))])⟩,
  ⟨none, .always, .e (.sto 2 (.t 12) (.t 45))⟩])
  (.seq (.reg [0, 1, 2, 6, 8, 13, 40, 41, 42] false [⟨(some 46), .always, .q (.load (some 2) (.t 12))⟩,
  ⟨(some 47), .always, .call (.k (.fn 51 [] [])) [(.t 46)]⟩,
  ⟨(some 13), .always, .q (.mv (.t 47))⟩])
  (.seq (.reg [0, 1, 2, 6, 8, 13, 40, 41, 42, 49] false [⟨(some 48), .always, .q (.mv (.t 13))⟩,
  ⟨(some 49), .always, .q (.bin .neq .iface true (.t 48) (.k (.sc .nilIface)))⟩])
  (.cond (.t 49) (.seq (.reg [6, 7] false [⟨(some 50), .always, .q (.build [(.sc (.slice none 0 0)), (.sc (.bool false))] [])⟩,
  ⟨(some 51), .always, .q (.mv (.t 13))⟩,
  ⟨none, .always, .e (.sto 2 (.t 6) (.t 50))⟩,
  ⟨(some 7), .always, .q (.mv (.t 51))⟩])
  .ret)
  .skip)))))
  (.reg [0, 1, 2, 6, 8, 40, 41, 42] false [⟨(some 52), .always, .q (.bin .add .no true (.t 42) (.k (.sc (.int .i64 1))))⟩,
  ⟨(some 42), .always, .q (.mv (.t 52))⟩]))))
def l66_0 : XC := b66_0
theorem xl66_0 {E : Env} {Q : AX → St → Prop} {s : St} : xp E l66_0 s Q = xp E b66_0 s Q := rfl
def x66 : XC := (.seq (.reg [0, 1, 2, 6] false [⟨(some 6), .always, .e (.new 6 26 true [(.sc (.slice none 0 0)), (.sc (.bool false))])⟩,
  ⟨(some 7), .always, .q (.mv (.k (.sc .nilIface)))⟩])
  (.seq (.reg [0, 1, 2, 6, 8, 9, 10] false [⟨(some 19), .always, .q (.mv (.t 0))⟩,
  ⟨(some 20), .always, .call (.k (.fn 83 [] [])) [(.t 19)]⟩,
  ⟨(some 18), .always, .q (.mv (.t 20))⟩,
  ⟨(some 21), .always, .q (.ext (.t 18) 0)⟩,
  ⟨(some 22), .always, .q (.ext (.t 18) 1)⟩,
  ⟨(some 23), .always, .q (.ext (.t 18) 2)⟩,
  ⟨(some 8), .always, .q (.mv (.t 21))⟩,
  ⟨(some 9), .always, .q (.mv (.t 22))⟩,
  ⟨(some 10), .always, .q (.mv (.t 23))⟩])
  (.seq (.seq (.reg [0, 1, 2, 6, 8, 9, 25] false [⟨(some 24), .always, .q (.mv (.t 10))⟩,
  ⟨(some 25), .always, .q (.not (.t 24))⟩])
  (.cond (.t 25) (.seq (.regD [6, 7] [0, 0, 1, 7] [⟨(some 26), .always, .q (.build [(.sc (.slice none 0 0)), (.sc (.bool false))] [])⟩,
  ⟨(some 27), .always, .q (.load none (.k (.gl 3)))⟩,
  ⟨none, .always, .e (.sto 2 (.t 6) (.t 26))⟩,
  ⟨(some 7), .always, .q (.mv (.t 27))⟩])
  .ret)
  .skip))
  (.seq (.seq (.reg [0, 1, 2, 6, 8, 37] false [⟨(some 28), .always, .q (.mv (.t 1))⟩,
  ⟨(some 29), .always, .q (.lenL (.t 28))⟩,
  ⟨(some 30), .always, .q (.mv (.t 9))⟩,
  ⟨(some 31), .always, .q (.bin .neq .no false (.t 29) (.t 30))⟩,
  ⟨(some 32), .always, .q (.mv (.t 31))⟩,
  ⟨(some 33), (.on 32 false), .q (.mv (.t 2))⟩,
  ⟨(some 34), (.on 32 false), .q (.lenL (.t 33))⟩,
  ⟨(some 35), (.on 32 false), .q (.mv (.t 8))⟩,
  ⟨(some 36), (.on 32 false), .q (.bin .neq .no false (.t 34) (.t 35))⟩,
  ⟨(some 37), .always, .q (.pick (.t 32) (.k (.sc (.bool true))) (.t 36))⟩])
  (.cond (.t 37) (.seq (.regD [6, 7] [0, 0, 1, 7] [⟨(some 38), .always, .q (.build [(.sc (.slice none 0 0)), (.sc (.bool false))] [])⟩,
  ⟨(some 39), .always, .q (.load none (.k (.gl 4)))⟩,
  ⟨none, .always, .e (.sto 2 (.t 6) (.t 38))⟩,
  ⟨(some 7), .always, .q (.mv (.t 39))⟩])
  .ret)
  .skip))
  (.seq (.seq (.reg [0, 1, 2, 6, 8, 40, 41, 42] false [⟨(some 40), .always, .q (.mv (.t 2))⟩,
  ⟨(some 41), .always, .q (.lenL (.t 40))⟩,
  ⟨(some 42), .always, .q (.mv (.k (.sc (.int .i64 0))))⟩])
  (.block 0 (.loop l66_0)))
  (.seq (.reg [0, 1, 2, 6, 8, 14] false [⟨(some 53), .always, .q (.mv (.t 2))⟩,
  ⟨(some 54), .always, .q (.iaS 2 (.t 53) (.k (.sc (.int .i64 0))))⟩,
  ⟨(some 55), .always, .q (.load (some 2) (.t 54))⟩,
  ⟨(some 14), .always, .e (.new 14 26 true [(.sc (.slice none 0 0)), (.sc (.bool false))])⟩,
  ⟨none, .always, .e (.sto 2 (.t 14) (.t 55))⟩])
  (.seq (.seq (.reg [0, 1, 6, 14, 82] true [⟨(some 56), .always, .q (.mv (.t 8))⟩,
  ⟨(some 57), .always, .q (.bin .eql .no true (.t 56) (.k (.sc (.int .i64 2))))⟩,
  ⟨(some 58), .always, .q (.mv (.t 57))⟩,
  ⟨(some 59), (.on 58 true), .q (.load (some 2) (.t 14))⟩,
  ⟨(some 60), (.on 58 true), .q (.mv (.t 2))⟩,
  ⟨(some 61), (.on 58 true), .q (.iaS 2 (.t 60) (.k (.sc (.int .i64 1))))⟩,
  ⟨(some 62), (.on 58 true), .q (.load (some 2) (.t 61))⟩,
  ⟨(some 63), (.on 58 true), .call (.k (.fn 68 [] [])) [(.t 59), (.t 62)]⟩,
  ⟨(some 64), (.on 58 true), .q (.not (.t 63))⟩,
  ⟨(some 65), .always, .q (.pick (.t 58) (.t 64) (.k (.sc (.bool false))))⟩,
  ⟨(some 66), .always, .q (.mv (.t 65))⟩,
  ⟨(some 67), (.on 66 false), .q (.mv (.t 0))⟩,
  ⟨(some 68), (.on 66 false), .q (.bin .eql .no true (.t 67) (.k (.sc (.int .i64 10))))⟩,
  ⟨(some 69), (.on 66 false), .q (.mv (.t 68))⟩,
  ⟨(some 70), (.on 69 true), .q (.fa 1 (.t 14))⟩,
  ⟨(some 71), (.on 69 true), .q (.load none (.t 70))⟩,
  ⟨(some 72), (.on 69 true), .q (.not (.t 71))⟩,
  ⟨(some 73), (.on 66 false), .q (.pick (.t 69) (.t 72) (.k (.sc (.bool false))))⟩,
  ⟨(some 74), .always, .q (.pick (.t 66) (.k (.sc (.bool true))) (.t 73))⟩,
  ⟨(some 75), .always, .q (.mv (.t 74))⟩,
  ⟨(some 76), (.on 75 false), .q (.mv (.t 0))⟩,
  ⟨(some 77), (.on 75 false), .q (.bin .eql .no true (.t 76) (.k (.sc (.int .i64 11))))⟩,
  ⟨(some 78), (.on 75 false), .q (.mv (.t 77))⟩,
  ⟨(some 79), (.on 78 true), .q (.fa 1 (.t 14))⟩,
  ⟨(some 80), (.on 78 true), .q (.load none (.t 79))⟩,
  ⟨(some 81), (.on 75 false), .q (.pick (.t 78) (.t 80) (.k (.sc (.bool false))))⟩,
  ⟨(some 82), .always, .q (.pick (.t 75) (.k (.sc (.bool true))) (.t 81))⟩])
  (.cond (.t 82) (.seq (.regD [6, 7] [0, 0, 1, 7] [⟨(some 83), .always, .q (.build [(.sc (.slice none 0 0)), (.sc (.bool false))] [])⟩,
  ⟨(some 84), .always, .q (.load none (.k (.gl 4)))⟩,
  ⟨none, .always, .e (.sto 2 (.t 6) (.t 83))⟩,
  ⟨(some 7), .always, .q (.mv (.t 84))⟩])
  .ret)
  .skip))
  (.seq (.reg [0, 1, 6, 14, 15, 16] true [⟨(some 85), .always, .q (.fa 1 (.t 14))⟩,
  ⟨(some 86), .always, .q (.load none (.t 85))⟩,
  ⟨(some 15), .always, .q (.mv (.k (.sc (.bool true))))⟩,
  ⟨(some 16), .always, .q (.mv (.t 86))⟩])
  (.seq (.seq (.reg [1, 6, 14, 15, 16, 87] false [⟨(some 87), .always, .q (.mv (.t 0))⟩])
  (.block 2 (.seq (.reg [1, 6, 14, 15, 16, 87, 88] false [⟨(some 89), .always, .q (.bin .eql .no true (.t 87) (.k (.sc (.int .i64 9))))⟩,
  ⟨(some 88), .always, .q (.mv (.t 89))⟩])
  (.cond (.t 88) (.reg [6, 14, 15, 16] true [⟨(some 90), .always, .q (.mv (.t 1))⟩,
  ⟨(some 91), .always, .q (.iaS 1 (.t 90) (.k (.sc (.int .i64 0))))⟩,
  ⟨(some 92), .always, .q (.load none (.t 91))⟩,
  ⟨(some 93), .always, .q (.mv (.t 1))⟩,
  ⟨(some 94), .always, .q (.iaS 1 (.t 93) (.k (.sc (.int .i64 1))))⟩,
  ⟨(some 95), .always, .q (.load none (.t 94))⟩,
  ⟨(some 96), .always, .q (.bin .leq .no false (.t 92) (.t 95))⟩,
  ⟨(some 97), .always, .q (.mv (.t 96))⟩,
  ⟨(some 98), (.on 97 true), .q (.mv (.t 1))⟩,
  ⟨(some 99), (.on 97 true), .q (.iaS 1 (.t 98) (.k (.sc (.int .i64 0))))⟩,
  ⟨(some 100), (.on 97 true), .q (.load none (.t 99))⟩,
  ⟨(some 101), (.on 97 true), .q (.fa 1 (.t 14))⟩,
  ⟨(some 102), (.on 97 true), .q (.load none (.t 101))⟩,
  ⟨(some 103), (.on 97 true), .call (.k (.fn 84 [] [])) [(.t 100), (.t 102)]⟩,
  ⟨(some 104), .always, .q (.pick (.t 97) (.t 103) (.k (.sc (.bool false))))⟩,
  ⟨(some 105), .always, .q (.mv (.t 104))⟩,
  ⟨(some 106), (.on 105 true), .q (.mv (.t 1))⟩,
  ⟨(some 107), (.on 105 true), .q (.iaS 1 (.t 106) (.k (.sc (.int .i64 1))))⟩,
  ⟨(some 108), (.on 105 true), .q (.load none (.t 107))⟩,
  ⟨(some 109), (.on 105 true), .q (.fa 1 (.t 14))⟩,
  ⟨(some 110), (.on 105 true), .q (.load none (.t 109))⟩,
  ⟨(some 111), (.on 105 true), .call (.k (.fn 84 [] [])) [(.t 108), (.t 110)]⟩,
  ⟨(some 112), .always, .q (.pick (.t 105) (.t 111) (.k (.sc (.bool false))))⟩,
  ⟨(some 15), .always, .q (.mv (.t 112))⟩])
  (.seq (.reg [1, 6, 14, 15, 16, 87, 113] false [⟨(some 114), .always, .q (.bin .eql .no true (.t 87) (.k (.sc (.int .i64 10))))⟩,
  ⟨(some 113), .always, .q (.mv (.t 114))⟩])
  (.cond (.t 113) (.reg [6, 14, 15, 16] false [⟨(some 115), .always, .q (.mv (.t 1))⟩,
  ⟨(some 116), .always, .q (.iaS 1 (.t 115) (.k (.sc (.int .i64 0))))⟩,
  ⟨(some 117), .always, .q (.load none (.t 116))⟩,
  ⟨(some 118), .always, .call (.k (.fn 85 [] [])) [(.t 117), (.k (.sc (.int .i64 0))), (.k (.sc (.int .i64 2147483647)))]⟩,
  ⟨(some 119), .always, .q (.mv (.t 118))⟩,
  ⟨(some 120), (.on 119 true), .q (.mv (.t 1))⟩,
  ⟨(some 121), (.on 119 true), .q (.iaS 1 (.t 120) (.k (.sc (.int .i64 1))))⟩,
  ⟨(some 122), (.on 119 true), .q (.load none (.t 121))⟩,
  ⟨(some 123), (.on 119 true), .call (.k (.fn 85 [] [])) [(.t 122), (.k (.sc (.int .i64 0))), (.k (.sc (.int .i64 62)))]⟩,
  ⟨(some 124), .always, .q (.pick (.t 119) (.t 123) (.k (.sc (.bool false))))⟩,
  ⟨(some 125), .always, .q (.mv (.t 124))⟩,
  ⟨(some 126), (.on 125 true), .q (.mv (.t 1))⟩,
  ⟨(some 127), (.on 125 true), .q (.iaS 1 (.t 126) (.k (.sc (.int .i64 2))))⟩,
  ⟨(some 128), (.on 125 true), .q (.load none (.t 127))⟩,
  ⟨(some 129), (.on 125 true), .call (.k (.fn 84 [] [])) [(.t 128), (.k (.sc (.bool false)))]⟩,
  ⟨(some 130), .always, .q (.pick (.t 125) (.t 129) (.k (.sc (.bool false))))⟩,
  ⟨(some 15), .always, .q (.mv (.t 130))⟩,
  ⟨(some 16), .always, .q (.mv (.k (.sc (.bool false))))⟩])
  (.seq (.reg [1, 6, 14, 15, 16, 131] false [⟨(some 132), .always, .q (.bin .eql .no true (.t 87) (.k (.sc (.int .i64 11))))⟩,
  ⟨(some 131), .always, .q (.mv (.t 132))⟩])
  (.cond (.t 131) (.reg [6, 14, 15, 16] false [⟨(some 133), .always, .q (.mv (.t 1))⟩,
  ⟨(some 134), .always, .q (.iaS 1 (.t 133) (.k (.sc (.int .i64 0))))⟩,
  ⟨(some 135), .always, .q (.load none (.t 134))⟩,
  ⟨(some 136), .always, .call (.k (.fn 84 [] [])) [(.t 135), (.k (.sc (.bool false)))]⟩,
  ⟨(some 15), .always, .q (.mv (.t 136))⟩,
  ⟨(some 16), .always, .q (.mv (.k (.sc (.bool true))))⟩])
  .skip))))))))
  (.seq (.seq (.reg [6, 14, 16, 138] false [⟨(some 137), .always, .q (.mv (.t 15))⟩,
  ⟨(some 138), .always, .q (.not (.t 137))⟩])
  (.cond (.t 138) (.seq (.regD [6, 7] [0, 0, 1, 7] [⟨(some 139), .always, .q (.build [(.sc (.slice none 0 0)), (.sc (.bool false))] [])⟩,
  ⟨(some 140), .always, .q (.load none (.k (.gl 5)))⟩,
  ⟨none, .always, .e (.sto 2 (.t 6) (.t 139))⟩,
  ⟨(some 7), .always, .q (.mv (.t 140))⟩])
  .ret)
  .skip))
  (.seq (.reg [6, 16, 17] false [⟨(some 141), .always, .q (.load (some 2) (.t 14))⟩,
  ⟨(some 142), .always, .call (.k (.fn 47 [] [])) [(.t 141)]⟩,
  ⟨(some 17), .always, .e (.new 17 26 true [(.sc (.slice none 0 0)), (.sc (.bool false))])⟩,
  ⟨none, .always, .e (.sto 2 (.t 17) (.t 142))⟩])
  (.seq (.reg [6, 17] false [⟨(some 143), .always, .q (.mv (.t 16))⟩,
  ⟨(some 144), .always, .q (.fa 1 (.t 17))⟩,
  ⟨none, .always, .e (.sto 1 (.t 144) (.t 143))⟩])
  (.seq (.reg [6, 7] false [⟨(some 145), .always, .q (.load (some 2) (.t 17))⟩,
  ⟨none, .always, .e (.sto 2 (.t 6) (.t 145))⟩,
  ⟨(some 7), .always, .q (.mv (.k (.sc .nilIface)))⟩])
  .ret)))))))))))))
/-! 68 lodge/shape.Same: 2 params, 1 results, 17 -/
def x68 : XC := (.seq (.reg [2, 3] false [⟨(some 2), .always, .e (.box 2 26 true 2 (.t 0))⟩,
  ⟨(some 3), .always, .e (.box 3 26 true 2 (.t 1))⟩,
  ⟨(some 4), .always, .q (.mv (.k (.sc (.bool false))))⟩])
  (.seq (.reg [4] false [⟨(some 5), .always, .q (.fa 1 (.t 2))⟩,
  ⟨(some 6), .always, .q (.load none (.t 5))⟩,
  ⟨(some 7), .always, .q (.fa 1 (.t 3))⟩,
  ⟨(some 8), .always, .q (.load none (.t 7))⟩,
  ⟨(some 9), .always, .q (.bin .eql .bool false (.t 6) (.t 8))⟩,
  ⟨(some 10), .always, .q (.mv (.t 9))⟩,
  ⟨(some 11), (.on 10 true), .q (.fa 0 (.t 2))⟩,
  ⟨(some 12), (.on 10 true), .q (.load none (.t 11))⟩,
  ⟨(some 13), (.on 10 true), .q (.fa 0 (.t 3))⟩,
  ⟨(some 14), (.on 10 true), .q (.load none (.t 13))⟩,
  ⟨(some 15), (.on 10 true), .call (.k (.fn 86 [] [])) [(.t 12), (.t 14)]⟩,
  ⟨(some 16), .always, .q (.pick (.t 10) (.t 15) (.k (.sc (.bool false))))⟩,
  ⟨(some 4), .always, .q (.mv (.t 16))⟩])
  .ret))
/-! 69 lodge/tens.fits: 2 params, 1 results, 18 -/
def x69 : XC := (.seq (.reg [0, 1] false [⟨(some 4), .always, .q (.mv (.k (.sc (.bool false))))⟩])
  (.seq (.seq (.reg [0, 5] false [⟨(some 5), .always, .q (.mv (.t 1))⟩])
  (.cond (.t 5) (.seq (.reg [4] false [⟨(some 6), .always, .q (.mv (.t 0))⟩,
  ⟨(some 7), .always, .q (.bin .geq .no true (.t 6) (.k (.sc (.int .i64 (-2147483648)))))⟩,
  ⟨(some 8), .always, .q (.mv (.t 7))⟩,
  ⟨(some 9), (.on 8 true), .q (.mv (.t 0))⟩,
  ⟨(some 10), (.on 8 true), .q (.bin .leq .no true (.t 9) (.k (.sc (.int .i64 2147483647))))⟩,
  ⟨(some 11), .always, .q (.pick (.t 8) (.t 10) (.k (.sc (.bool false))))⟩,
  ⟨(some 4), .always, .q (.mv (.t 11))⟩])
  .ret)
  .skip))
  (.seq (.reg [4] false [⟨(some 12), .always, .q (.mv (.t 0))⟩,
  ⟨(some 13), .always, .q (.bin .geq .no true (.t 12) (.k (.sc (.int .i64 (-128)))))⟩,
  ⟨(some 14), .always, .q (.mv (.t 13))⟩,
  ⟨(some 15), (.on 14 true), .q (.mv (.t 0))⟩,
  ⟨(some 16), (.on 14 true), .q (.bin .leq .no true (.t 15) (.k (.sc (.int .i64 127))))⟩,
  ⟨(some 17), .always, .q (.pick (.t 14) (.t 16) (.k (.sc (.bool false))))⟩,
  ⟨(some 4), .always, .q (.mv (.t 17))⟩])
  .ret)))
/-! 70 slices.Clone[[]int,int]: 1 params, 1 results, 8 -/
def x70 : XC := (.seq (.reg [0] false [⟨(some 2), .always, .q (.mv (.k (.sc (.slice none 0 0))))⟩])
  (.seq (.seq (.reg [0, 4] false [⟨(some 3), .always, .q (.mv (.t 0))⟩,
  ⟨(some 4), .always, .q (.bin .eql .slice true (.t 3) (.k (.sc (.slice none 0 0))))⟩])
  (.cond (.t 4) (.seq (.reg [2] false [⟨(some 2), .always, .q (.mv (.k (.sc (.slice none 0 0))))⟩])
  .ret)
  .skip))
  (.seq (.reg [2] false [⟨(some 5), .always, .e (.bsl false 3 [(.sc (.int .i64 0))] 1 0 [])⟩,
  ⟨(some 6), .always, .q (.mv (.t 0))⟩,
  ⟨(some 7), .always, .e (.app 3 1 8 .sl (.t 5) (.t 6))⟩,
  ⟨(some 2), .always, .q (.mv (.t 7))⟩])
  .ret)))
/-! 71 lodge/lodgesee.sentinels: 0 params, 1 results, 23 -/
def x71 : XC := (.seq (.reg [] false [⟨(some 0), .always, .q (.mv (.k (.sc (.slice none 0 0))))⟩])
  (.seq (.reg [0] false [⟨(some 1), .always, .q (.load none (.k (.gl 4)))⟩,
  ⟨(some 2), .always, .q (.load none (.k (.gl 5)))⟩,
  ⟨(some 3), .always, .q (.load none (.k (.gl 3)))⟩,
  ⟨(some 4), .always, .q (.load none (.k (.gl 0)))⟩,
  ⟨(some 5), .always, .q (.load none (.k (.gl 10)))⟩,
  ⟨(some 6), .always, .q (.load none (.k (.gl 11)))⟩,
  ⟨(some 7), .always, .q (.load none (.k (.gl 1)))⟩,
  ⟨(some 8), .always, .q (.load none (.k (.gl 9)))⟩,
  ⟨(some 9), .always, .q (.load none (.k (.gl 6)))⟩,
  ⟨(some 10), .always, .q (.load none (.k (.gl 8)))⟩,
  ⟨(some 11), .always, .q (.load none (.k (.gl 2)))⟩,
  ⟨(some 12), .always, .q (.load none (.k (.gl 12)))⟩,
  ⟨(some 13), .always, .q (.load none (.k (.gl 13)))⟩,
  ⟨(some 14), .always, .q (.load none (.k (.gl 14)))⟩,
  ⟨(some 15), .always, .q (.load none (.k (.gl 15)))⟩,
  ⟨(some 16), .always, .q (.load none (.k (.gl 16)))⟩,
  ⟨(some 17), .always, .q (.load none (.k (.gl 17)))⟩,
  ⟨(some 18), .always, .q (.load none (.k (.gl 18)))⟩,
  ⟨(some 19), .always, .q (.load none (.k (.gl 19)))⟩,
  ⟨(some 20), .always, .q (.load none (.k (.gl 20)))⟩,
  ⟨(some 21), .always, .q (.load none (.k (.gl 21)))⟩,
  ⟨(some 22), .always, .e (.bsl false 38 [(.sc .nilIface)] 1 21 [(0, 1, (.t 1)), (1, 1, (.t 2)), (2, 1, (.t 3)), (3, 1, (.t 4)), (4, 1, (.t 5)), (5, 1, (.t 6)), (6, 1, (.t 7)), (7, 1, (.t 8)), (8, 1, (.t 9)), (9, 1, (.t 10)), (10, 1, (.t 11)), (11, 1, (.t 12)), (12, 1, (.t 13)), (13, 1, (.t 14)), (14, 1, (.t 15)), (15, 1, (.t 16)), (16, 1, (.t 17)), (17, 1, (.t 18)), (18, 1, (.t 19)), (19, 1, (.t 20)), (20, 1, (.t 21))])⟩,
  ⟨(some 0), .always, .q (.mv (.t 22))⟩])
  .ret))
/-! 72 lodge/lodgesee.Alike: 2 params, 1 results, 20 -/
def x72 : XC := (.seq (.reg [0, 1] false [⟨(some 4), .always, .q (.mv (.k (.sc (.bool false))))⟩])
  (.seq (.seq (.reg [0, 1, 10] false [⟨(some 5), .always, .q (.mv (.t 0))⟩,
  ⟨(some 6), .always, .q (.bin .eql .iface true (.t 5) (.k (.sc .nilIface)))⟩,
  ⟨(some 7), .always, .q (.mv (.t 6))⟩,
  ⟨(some 8), (.on 7 false), .q (.mv (.t 1))⟩,
  ⟨(some 9), (.on 7 false), .q (.bin .eql .iface true (.t 8) (.k (.sc .nilIface)))⟩,
  ⟨(some 10), .always, .q (.pick (.t 7) (.k (.sc (.bool true))) (.t 9))⟩])
  (.cond (.t 10) (.seq (.reg [4] false [⟨(some 11), .always, .q (.mv (.t 0))⟩,
  ⟨(some 12), .always, .q (.bin .eql .iface true (.t 11) (.k (.sc .nilIface)))⟩,
  ⟨(some 13), .always, .q (.mv (.t 12))⟩,
  ⟨(some 14), (.on 13 true), .q (.mv (.t 1))⟩,
  ⟨(some 15), (.on 13 true), .q (.bin .eql .iface true (.t 14) (.k (.sc .nilIface)))⟩,
  ⟨(some 16), .always, .q (.pick (.t 13) (.t 15) (.k (.sc (.bool false))))⟩,
  ⟨(some 4), .always, .q (.mv (.t 16))⟩])
  .ret)
  .skip))
  (.seq (.reg [4] false [⟨(some 17), .always, .q (.mv (.t 0))⟩,
  ⟨(some 18), .always, .q (.mv (.t 1))⟩,
  ⟨(some 19), .always, .q (.bin .eql .iface false (.t 17) (.t 18))⟩,
  ⟨(some 4), .always, .q (.mv (.t 19))⟩])
  .ret)))
/-! 73 lodge/shape.fair: 1 params, 1 results, 7 -/
def x73 : XC := (.seq (.reg [0] false [⟨(some 2), .always, .q (.mv (.k (.sc (.bool false))))⟩])
  (.seq (.reg [2] false [⟨(some 3), .always, .q (.mv (.t 0))⟩,
  ⟨(some 4), .always, .q (.build [(.sc (.slice none 0 0)), (.sc (.bool false))] [(0, 1, (.t 3))])⟩,
  ⟨(some 5), .always, .call (.k (.fn 51 [] [])) [(.t 4)]⟩,
  ⟨(some 6), .always, .q (.bin .eql .iface true (.t 5) (.k (.sc .nilIface)))⟩,
  ⟨(some 2), .always, .q (.mv (.t 6))⟩])
  .ret))
/-! 78 lodge/check.Descs: 2 params, 1 results, 26 -/
def b78_0 : XC := (.seq (.reg [2, 5, 9, 10, 11, 12] false [⟨(some 12), .always, .q (.bin .lss .no false (.t 11) (.t 10))⟩])
  (.seq (.cond (.t 12) .skip
  (.exit 0))
  (.seq (.block 1 (.seq (.reg [2, 5, 7, 9, 10, 11] false [⟨(some 13), .always, .q (.iaS 1 (.t 9) (.t 11))⟩,
  ⟨(some 14), .always, .q (.load none (.t 13))⟩,
  ⟨(some 7), .always, .q (.mv (.t 14))⟩])
  (.reg [2, 5, 9, 10, 11] false [⟨(some 15), .always, .q (.mv (.t 5))⟩,
  ⟨(some 16), .always, .q (.fa 1 (.t 2))⟩,
  ⟨(some 17), .always, .q (.load none (.t 16))⟩,
  ⟨(some 18), .always, .q (.mv (.t 7))⟩,
  ⟨(some 19), .always, .q (.iaS 3 (.t 17) (.t 18))⟩,
  ⟨(some 20), .always, .q (.fa 1 (.t 19))⟩,
  ⟨(some 21), .always, .q (.load (some 2) (.t 20))⟩,
  ⟨(some 22), .always, .e (.bsl true 26 [(.sc (.slice none 0 0)), (.sc (.bool false))] 2 1 [(0, 2, (.t 21))])⟩,
  ⟨(some 23), .always, .e (.app 26 2 32 .sl (.t 15) (.t 22))⟩,
  ⟨(some 5), .always, .q (.mv (.t 23))⟩])))
  (.reg [2, 5, 9, 10, 11] false [⟨(some 24), .always, .q (.bin .add .no true (.t 11) (.k (.sc (.int .i64 1))))⟩,
  ⟨(some 11), .always, .q (.mv (.t 24))⟩]))))
def l78_0 : XC := b78_0
theorem xl78_0 {E : Env} {Q : AX → St → Prop} {s : St} : xp E l78_0 s Q = xp E b78_0 s Q := rfl
def x78 : XC := (.seq (.reg [2, 3] false [⟨(some 2), .always, .e (.box 2 57 true 7 (.t 0))⟩,
  ⟨(some 3), .always, .e (.box 3 60 true 6 (.t 1))⟩,
  ⟨(some 4), .always, .q (.mv (.k (.sc (.slice none 0 0))))⟩])
  (.seq (.reg [2, 3, 5] false [⟨(some 5), .always, .q (.mv (.k (.sc (.slice none 0 0))))⟩])
  (.seq (.seq (.reg [2, 5, 9, 10, 11] false [⟨(some 8), .always, .q (.fa 2 (.t 3))⟩,
  ⟨(some 9), .always, .q (.load none (.t 8))⟩,
  ⟨(some 10), .always, .q (.lenL (.t 9))⟩,
  ⟨(some 11), .always, .q (.mv (.k (.sc (.int .i64 0))))⟩])
  (.block 0 (.loop l78_0)))
  (.seq (.reg [4] false [⟨(some 25), .always, .q (.mv (.t 5))⟩,
  ⟨(some 4), .always, .q (.mv (.t 25))⟩])
  .ret))))
/-! 79 lodge/op.Unit: 3 params, 2 results, 71 -/
def x79 : XC := (.seq (.reg [0, 1, 2] false [⟨(some 6), .always, .q (.mv (.k (.sc (.int .i64 0))))⟩,
  ⟨(some 7), .always, .q (.mv (.k (.sc .nilIface)))⟩])
  (.seq (.seq (.reg [0, 1, 2, 9] false [⟨(some 13), .always, .q (.mv (.t 0))⟩,
  ⟨(some 14), .always, .q (.mv (.t 1))⟩,
  ⟨(some 15), .always, .q (.mv (.t 2))⟩,
  ⟨(some 16), .always, .call (.k (.fn 43 [] [])) [(.t 13), (.t 14), (.t 15)]⟩,
  ⟨(some 12), .always, .q (.mv (.t 16))⟩,
  ⟨(some 17), .always, .q (.ext (.t 12) 0)⟩,
  ⟨(some 18), .always, .q (.ext (.t 12) 1)⟩,
  ⟨(some 8), .always, .e (.new 8 26 true [(.sc (.slice none 0 0)), (.sc (.bool false))])⟩,
  ⟨none, .always, .e (.sto 2 (.t 8) (.t 17))⟩,
  ⟨(some 9), .always, .q (.mv (.t 18))⟩])
  (.seq (.reg [0, 1, 2, 9, 20] false [⟨(some 19), .always, .q (.mv (.t 9))⟩,
  ⟨(some 20), .always, .q (.bin .neq .iface true (.t 19) (.k (.sc .nilIface)))⟩])
  (.cond (.t 20) (.seq (.reg [6, 7] false [⟨(some 21), .always, .q (.mv (.t 9))⟩,
  ⟨(some 6), .always, .q (.mv (.k (.sc (.int .i64 0))))⟩,
  ⟨(some 7), .always, .q (.mv (.t 21))⟩])
  .ret)
  .skip)))
  (.seq (.reg [0, 1, 2, 10] false [⟨(some 22), .always, .q (.mv (.t 2))⟩,
  ⟨(some 23), .always, .q (.iaS 2 (.t 22) (.k (.sc (.int .i64 0))))⟩,
  ⟨(some 24), .always, .q (.fa 0 (.t 23))⟩,
  ⟨(some 25), .always, .q (.load none (.t 24))⟩,
  ⟨(some 10), .always, .q (.mv (.t 25))⟩])
  (.seq (.seq (.reg [1, 2, 10, 26] false [⟨(some 26), .always, .q (.mv (.t 0))⟩])
  (.block 0 (.seq (.reg [1, 2, 10, 26, 27] false [⟨(some 28), .always, .q (.bin .eql .no true (.t 26) (.k (.sc (.int .i64 10))))⟩,
  ⟨(some 27), .always, .q (.mv (.t 28))⟩])
  (.cond (.t 27) (.seq (.reg [6, 7] false [⟨(some 6), .always, .q (.mv (.k (.sc (.int .i64 2))))⟩,
  ⟨(some 7), .always, .q (.mv (.k (.sc .nilIface)))⟩])
  .ret)
  (.seq (.reg [1, 2, 10, 26, 29] false [⟨(some 30), .always, .q (.bin .eql .no true (.t 26) (.k (.sc (.int .i64 12))))⟩,
  ⟨(some 29), .always, .q (.mv (.t 30))⟩])
  (.cond (.t 29) (.seq (.reg [6, 7] false [⟨(some 31), .always, .q (.mv (.t 10))⟩,
  ⟨(some 32), .always, .q (.iaS 1 (.t 31) (.k (.sc (.int .i64 1))))⟩,
  ⟨(some 33), .always, .q (.load none (.t 32))⟩,
  ⟨(some 6), .always, .q (.mv (.t 33))⟩,
  ⟨(some 7), .always, .q (.mv (.k (.sc .nilIface)))⟩])
  .ret)
  (.seq (.reg [1, 2, 10, 26, 34] false [⟨(some 35), .always, .q (.bin .eql .no true (.t 26) (.k (.sc (.int .i64 13))))⟩,
  ⟨(some 34), .always, .q (.mv (.t 35))⟩])
  (.cond (.t 34) (.seq (.reg [11] false [⟨(some 36), .always, .q (.mv (.t 2))⟩,
  ⟨(some 37), .always, .q (.iaS 2 (.t 36) (.k (.sc (.int .i64 1))))⟩,
  ⟨(some 38), .always, .q (.fa 0 (.t 37))⟩,
  ⟨(some 39), .always, .q (.load none (.t 38))⟩,
  ⟨(some 11), .always, .q (.mv (.t 39))⟩])
  (.seq (.reg [6, 7] true [⟨(some 40), .always, .q (.mv (.t 11))⟩,
  ⟨(some 41), .always, .q (.iaS 1 (.t 40) (.k (.sc (.int .i64 0))))⟩,
  ⟨(some 42), .always, .q (.load none (.t 41))⟩,
  ⟨(some 43), .always, .q (.mv (.t 11))⟩,
  ⟨(some 44), .always, .q (.iaS 1 (.t 43) (.k (.sc (.int .i64 1))))⟩,
  ⟨(some 45), .always, .q (.load none (.t 44))⟩,
  ⟨(some 46), .always, .q (.bin .mul .no false (.t 42) (.t 45))⟩,
  ⟨(some 47), .always, .q (.mv (.t 11))⟩,
  ⟨(some 48), .always, .q (.iaS 1 (.t 47) (.k (.sc (.int .i64 2))))⟩,
  ⟨(some 49), .always, .q (.load none (.t 48))⟩,
  ⟨(some 50), .always, .q (.bin .mul .no false (.t 46) (.t 49))⟩,
  ⟨(some 6), .always, .q (.mv (.t 50))⟩,
  ⟨(some 7), .always, .q (.mv (.k (.sc .nilIface)))⟩])
  .ret))
  (.seq (.seq (.reg [1, 10, 26, 51] false [⟨(some 52), .always, .q (.bin .eql .no true (.t 26) (.k (.sc (.int .i64 14))))⟩,
  ⟨(some 51), .always, .q (.mv (.t 52))⟩])
  (.cond (.t 51) .skip
  (.reg [1, 10, 26, 51] false [⟨(some 53), .always, .q (.bin .eql .no true (.t 26) (.k (.sc (.int .i64 15))))⟩,
  ⟨(some 51), .always, .q (.mv (.t 53))⟩])))
  (.cond (.t 51) (.seq (.reg [6, 7] true [⟨(some 54), .always, .q (.mv (.t 1))⟩,
  ⟨(some 55), .always, .q (.iaS 1 (.t 54) (.k (.sc (.int .i64 0))))⟩,
  ⟨(some 56), .always, .q (.load none (.t 55))⟩,
  ⟨(some 57), .always, .q (.mv (.t 1))⟩,
  ⟨(some 58), .always, .q (.iaS 1 (.t 57) (.k (.sc (.int .i64 0))))⟩,
  ⟨(some 59), .always, .q (.load none (.t 58))⟩,
  ⟨(some 60), .always, .q (.bin .mul .no false (.t 56) (.t 59))⟩,
  ⟨(some 6), .always, .q (.mv (.t 60))⟩,
  ⟨(some 7), .always, .q (.mv (.k (.sc .nilIface)))⟩])
  .ret)
  (.seq (.seq (.reg [10, 26, 61] false [⟨(some 62), .always, .q (.bin .eql .no true (.t 26) (.k (.sc (.int .i64 16))))⟩,
  ⟨(some 61), .always, .q (.mv (.t 62))⟩])
  (.cond (.t 61) .skip
  (.seq (.reg [10, 26, 61] false [⟨(some 63), .always, .q (.bin .eql .no true (.t 26) (.k (.sc (.int .i64 19))))⟩,
  ⟨(some 61), .always, .q (.mv (.t 63))⟩])
  (.cond (.t 61) .skip
  (.reg [10, 61] false [⟨(some 64), .always, .q (.bin .eql .no true (.t 26) (.k (.sc (.int .i64 20))))⟩,
  ⟨(some 61), .always, .q (.mv (.t 64))⟩])))))
  (.cond (.t 61) (.seq (.reg [6, 7] false [⟨(some 65), .always, .q (.mv (.t 10))⟩,
  ⟨(some 66), .always, .q (.mv (.t 10))⟩,
  ⟨(some 67), .always, .q (.lenL (.t 66))⟩,
  ⟨(some 68), .always, .q (.bin .sub .no true (.t 67) (.k (.sc (.int .i64 1))))⟩,
  ⟨(some 69), .always, .q (.iaS 1 (.t 65) (.t 68))⟩,
  ⟨(some 70), .always, .q (.load none (.t 69))⟩,
  ⟨(some 6), .always, .q (.mv (.t 70))⟩,
  ⟨(some 7), .always, .q (.mv (.k (.sc .nilIface)))⟩])
  .ret)
  .skip))))))))))))
  (.seq (.reg [6, 7] false [⟨(some 6), .always, .q (.mv (.k (.sc (.int .i64 1))))⟩,
  ⟨(some 7), .always, .q (.mv (.k (.sc .nilIface)))⟩])
  .ret)))))
/-! 80 lodge/mat.narrow: 1 params, 1 results, 7 -/
def x80 : XC := (.seq (.reg [0] false [⟨(some 2), .always, .q (.mv (.k (.sc (.bool false))))⟩])
  (.seq (.reg [2] false [⟨(some 3), .always, .q (.mv (.t 0))⟩,
  ⟨(some 4), .always, .call (.k (.fn 81 [] [])) [(.t 3)]⟩,
  ⟨(some 5), .always, .q (.mv (.t 0))⟩,
  ⟨(some 6), .always, .q (.bin .eql .no false (.t 4) (.t 5))⟩,
  ⟨(some 2), .always, .q (.mv (.t 6))⟩])
  .ret))
/-! 81 lodge/tens.Narrow: 1 params, 1 results, 6 -/
def x81 : XC := (.seq (.reg [0] false [⟨(some 2), .always, .q (.mv (.k (.sc (.int .i64 0))))⟩])
  (.seq (.reg [2] false [⟨(some 3), .always, .q (.mv (.t 0))⟩,
  ⟨(some 4), .always, .q (.mx false [(.t 3), (.k (.sc (.int .i64 127)))])⟩,
  ⟨(some 5), .always, .q (.mx true [(.k (.sc (.int .i64 (-128)))), (.t 4)])⟩,
  ⟨(some 2), .always, .q (.mv (.t 5))⟩])
  .ret))
/-! 82 lodge/soft.looks: 2 params, 2 results, 76 -/
def x82 : XC := (.seq (.reg [0, 1, 4] false [⟨(some 4), .always, .e (.new 4 26 true [(.sc (.slice none 0 0)), (.sc (.bool false))])⟩,
  ⟨(some 5), .always, .q (.mv (.k (.sc (.bool false))))⟩])
  (.seq (.reg [0, 1, 4, 6] false [⟨(some 9), .always, .q (.mv (.t 1))⟩,
  ⟨(some 10), .always, .q (.iaS 2 (.t 9) (.k (.sc (.int .i64 0))))⟩,
  ⟨(some 11), .always, .q (.load (some 2) (.t 10))⟩,
  ⟨(some 6), .always, .e (.new 6 26 true [(.sc (.slice none 0 0)), (.sc (.bool false))])⟩,
  ⟨none, .always, .e (.sto 2 (.t 6) (.t 11))⟩])
  (.seq (.reg [0, 1, 4, 6, 7] false [⟨(some 12), .always, .q (.fa 0 (.t 6))⟩,
  ⟨(some 13), .always, .q (.load none (.t 12))⟩,
  ⟨(some 14), .always, .q (.lenL (.t 13))⟩,
  ⟨(some 7), .always, .q (.mv (.t 14))⟩])
  (.seq (.seq (.reg [1, 4, 6, 7, 15] false [⟨(some 15), .always, .q (.mv (.t 0))⟩])
  (.block 0 (.seq (.reg [1, 4, 6, 7, 15, 16] false [⟨(some 17), .always, .q (.bin .eql .no true (.t 15) (.k (.sc (.int .i64 16))))⟩,
  ⟨(some 16), .always, .q (.mv (.t 17))⟩])
  (.cond (.t 16) (.seq (.reg [4, 5] false [⟨(some 18), .always, .q (.load (some 2) (.t 6))⟩,
  ⟨(some 19), .always, .call (.k (.fn 47 [] [])) [(.t 18)]⟩,
  ⟨(some 20), .always, .q (.mv (.t 7))⟩,
  ⟨(some 21), .always, .q (.bin .gtr .no true (.t 20) (.k (.sc (.int .i64 0))))⟩,
  ⟨(some 22), .always, .q (.mv (.t 21))⟩,
  ⟨(some 23), (.on 22 true), .q (.fa 1 (.t 6))⟩,
  ⟨(some 24), (.on 22 true), .q (.load none (.t 23))⟩,
  ⟨(some 25), (.on 22 true), .q (.not (.t 24))⟩,
  ⟨(some 26), .always, .q (.pick (.t 22) (.t 25) (.k (.sc (.bool false))))⟩,
  ⟨(some 27), .always, .q (.mv (.t 26))⟩,
  ⟨(some 28), (.on 27 true), .q (.mv (.t 1))⟩,
  ⟨(some 29), (.on 27 true), .q (.iaS 2 (.t 28) (.k (.sc (.int .i64 1))))⟩,
  ⟨(some 30), (.on 27 true), .q (.load (some 2) (.t 29))⟩,
  ⟨(some 31), (.on 27 true), .e (.bsl false 3 [(.sc (.int .i64 0))] 1 1 [(0, 1, (.k (.sc (.int .i64 256))))])⟩,
  ⟨(some 32), (.on 27 true), .q (.build [(.sc (.slice none 0 0)), (.sc (.bool false))] [(0, 1, (.t 31)), (1, 1, (.k (.sc (.bool true))))])⟩,
  ⟨(some 33), (.on 27 true), .call (.k (.fn 68 [] [])) [(.t 30), (.t 32)]⟩,
  ⟨(some 34), .always, .q (.pick (.t 27) (.t 33) (.k (.sc (.bool false))))⟩,
  ⟨none, .always, .e (.sto 2 (.t 4) (.t 19))⟩,
  ⟨(some 5), .always, .q (.mv (.t 34))⟩])
  .ret)
  (.seq (.reg [1, 4, 6, 7, 35] false [⟨(some 36), .always, .q (.bin .eql .no true (.t 15) (.k (.sc (.int .i64 17))))⟩,
  ⟨(some 35), .always, .q (.mv (.t 36))⟩])
  (.cond (.t 35) (.seq (.reg [4, 6, 7, 8] false [⟨(some 37), .always, .q (.mv (.t 1))⟩,
  ⟨(some 38), .always, .q (.iaS 2 (.t 37) (.k (.sc (.int .i64 1))))⟩,
  ⟨(some 39), .always, .q (.load (some 2) (.t 38))⟩,
  ⟨(some 8), .always, .e (.new 8 26 true [(.sc (.slice none 0 0)), (.sc (.bool false))])⟩,
  ⟨none, .always, .e (.sto 2 (.t 8) (.t 39))⟩])
  (.seq (.seq (.reg [4, 6, 8, 52] false [⟨(some 40), .always, .q (.mv (.t 7))⟩,
  ⟨(some 41), .always, .q (.bin .neq .no true (.t 40) (.k (.sc (.int .i64 2))))⟩,
  ⟨(some 42), .always, .q (.mv (.t 41))⟩,
  ⟨(some 43), (.on 42 false), .q (.fa 0 (.t 8))⟩,
  ⟨(some 44), (.on 42 false), .q (.load none (.t 43))⟩,
  ⟨(some 45), (.on 42 false), .q (.lenL (.t 44))⟩,
  ⟨(some 46), (.on 42 false), .q (.bin .neq .no true (.t 45) (.k (.sc (.int .i64 1))))⟩,
  ⟨(some 47), .always, .q (.pick (.t 42) (.k (.sc (.bool true))) (.t 46))⟩,
  ⟨(some 48), .always, .q (.mv (.t 47))⟩,
  ⟨(some 49), (.on 48 false), .q (.fa 1 (.t 8))⟩,
  ⟨(some 50), (.on 48 false), .q (.load none (.t 49))⟩,
  ⟨(some 51), (.on 48 false), .q (.not (.t 50))⟩,
  ⟨(some 52), .always, .q (.pick (.t 48) (.k (.sc (.bool true))) (.t 51))⟩])
  (.cond (.t 52) (.seq (.reg [4, 5] false [⟨(some 53), .always, .q (.build [(.sc (.slice none 0 0)), (.sc (.bool false))] [])⟩,
  ⟨none, .always, .e (.sto 2 (.t 4) (.t 53))⟩,
  ⟨(some 5), .always, .q (.mv (.k (.sc (.bool false))))⟩])
  .ret)
  .skip))
  (.seq (.regD [4, 5] [0, 1, 3, 7, 0, 16, 48, 112, 255, 0, 512, 2047, 4095, 8191] [⟨(some 54), .always, .q (.fa 0 (.t 8))⟩,
  ⟨(some 55), .always, .q (.load none (.t 54))⟩,
  ⟨(some 56), .always, .q (.iaS 1 (.t 55) (.k (.sc (.int .i64 0))))⟩,
  ⟨(some 57), .always, .q (.load none (.t 56))⟩,
  ⟨(some 58), .always, .q (.fa 0 (.t 6))⟩,
  ⟨(some 59), .always, .q (.load none (.t 58))⟩,
  ⟨(some 60), .always, .q (.iaS 1 (.t 59) (.k (.sc (.int .i64 1))))⟩,
  ⟨(some 61), .always, .q (.load none (.t 60))⟩,
  ⟨(some 62), .always, .e (.bsl false 3 [(.sc (.int .i64 0))] 1 2 [(0, 1, (.t 57)), (1, 1, (.t 61))])⟩,
  ⟨(some 63), .always, .q (.fa 1 (.t 6))⟩,
  ⟨(some 64), .always, .q (.load none (.t 63))⟩,
  ⟨(some 65), .always, .q (.build [(.sc (.slice none 0 0)), (.sc (.bool false))] [(0, 1, (.t 62)), (1, 1, (.t 64))])⟩,
  ⟨none, .always, .e (.sto 2 (.t 4) (.t 65))⟩,
  ⟨(some 5), .always, .q (.mv (.k (.sc (.bool true))))⟩])
  .ret)))
  .skip))))))
  (.seq (.seq (.reg [4, 6, 7, 67] false [⟨(some 66), .always, .q (.mv (.t 7))⟩,
  ⟨(some 67), .always, .q (.bin .eql .no true (.t 66) (.k (.sc (.int .i64 0))))⟩])
  (.cond (.t 67) (.seq (.reg [4, 5] false [⟨(some 68), .always, .q (.build [(.sc (.slice none 0 0)), (.sc (.bool false))] [])⟩,
  ⟨none, .always, .e (.sto 2 (.t 4) (.t 68))⟩,
  ⟨(some 5), .always, .q (.mv (.k (.sc (.bool false))))⟩])
  .ret)
  .skip))
  (.seq (.reg [4, 5] false [⟨(some 69), .always, .q (.fa 0 (.t 6))⟩,
  ⟨(some 70), .always, .q (.load none (.t 69))⟩,
  ⟨(some 71), .always, .q (.mv (.t 7))⟩,
  ⟨(some 72), .always, .q (.bin .sub .no true (.t 71) (.k (.sc (.int .i64 1))))⟩,
  ⟨(some 73), .always, .q (.sl 1 3 (.t 70) none (some (.t 72)) none)⟩,
  ⟨(some 74), .always, .call (.k (.fn 70 [] [])) [(.t 73)]⟩,
  ⟨(some 75), .always, .q (.build [(.sc (.slice none 0 0)), (.sc (.bool false))] [(0, 1, (.t 74)), (1, 1, (.k (.sc (.bool true))))])⟩,
  ⟨none, .always, .e (.sto 2 (.t 4) (.t 75))⟩,
  ⟨(some 5), .always, .q (.mv (.k (.sc (.bool true))))⟩])
  .ret))))))
/-! 83 lodge/elem.counts: 1 params, 3 results, 19 -/
def x83 : XC := (.seq (.reg [0] false [⟨(some 2), .always, .q (.mv (.k (.sc (.int .i64 0))))⟩,
  ⟨(some 3), .always, .q (.mv (.k (.sc (.int .i64 0))))⟩,
  ⟨(some 4), .always, .q (.mv (.k (.sc (.bool false))))⟩])
  (.seq (.seq (.reg [5] false [⟨(some 5), .always, .q (.mv (.t 0))⟩])
  (.block 0 (.seq (.seq (.reg [5, 6] false [⟨(some 7), .always, .q (.bin .eql .no true (.t 5) (.k (.sc (.int .i64 4))))⟩,
  ⟨(some 6), .always, .q (.mv (.t 7))⟩])
  (.cond (.t 6) .skip
  (.seq (.reg [5, 6] false [⟨(some 8), .always, .q (.bin .eql .no true (.t 5) (.k (.sc (.int .i64 5))))⟩,
  ⟨(some 6), .always, .q (.mv (.t 8))⟩])
  (.cond (.t 6) .skip
  (.seq (.reg [5, 6] false [⟨(some 9), .always, .q (.bin .eql .no true (.t 5) (.k (.sc (.int .i64 6))))⟩,
  ⟨(some 6), .always, .q (.mv (.t 9))⟩])
  (.cond (.t 6) .skip
  (.reg [5, 6] false [⟨(some 10), .always, .q (.bin .eql .no true (.t 5) (.k (.sc (.int .i64 7))))⟩,
  ⟨(some 6), .always, .q (.mv (.t 10))⟩])))))))
  (.cond (.t 6) (.seq (.reg [2, 3, 4] false [⟨(some 2), .always, .q (.mv (.k (.sc (.int .i64 2))))⟩,
  ⟨(some 3), .always, .q (.mv (.k (.sc (.int .i64 0))))⟩,
  ⟨(some 4), .always, .q (.mv (.k (.sc (.bool true))))⟩])
  .ret)
  (.seq (.reg [5, 11] false [⟨(some 12), .always, .q (.bin .eql .no true (.t 5) (.k (.sc (.int .i64 8))))⟩,
  ⟨(some 11), .always, .q (.mv (.t 12))⟩])
  (.cond (.t 11) (.seq (.reg [2, 3, 4] false [⟨(some 2), .always, .q (.mv (.k (.sc (.int .i64 1))))⟩,
  ⟨(some 3), .always, .q (.mv (.k (.sc (.int .i64 0))))⟩,
  ⟨(some 4), .always, .q (.mv (.k (.sc (.bool true))))⟩])
  .ret)
  (.seq (.reg [5, 13] false [⟨(some 14), .always, .q (.bin .eql .no true (.t 5) (.k (.sc (.int .i64 9))))⟩,
  ⟨(some 13), .always, .q (.mv (.t 14))⟩])
  (.cond (.t 13) (.seq (.reg [2, 3, 4] false [⟨(some 2), .always, .q (.mv (.k (.sc (.int .i64 1))))⟩,
  ⟨(some 3), .always, .q (.mv (.k (.sc (.int .i64 2))))⟩,
  ⟨(some 4), .always, .q (.mv (.k (.sc (.bool true))))⟩])
  .ret)
  (.seq (.reg [5, 15] false [⟨(some 16), .always, .q (.bin .eql .no true (.t 5) (.k (.sc (.int .i64 10))))⟩,
  ⟨(some 15), .always, .q (.mv (.t 16))⟩])
  (.cond (.t 15) (.seq (.reg [2, 3, 4] false [⟨(some 2), .always, .q (.mv (.k (.sc (.int .i64 1))))⟩,
  ⟨(some 3), .always, .q (.mv (.k (.sc (.int .i64 3))))⟩,
  ⟨(some 4), .always, .q (.mv (.k (.sc (.bool true))))⟩])
  .ret)
  (.seq (.reg [17] false [⟨(some 18), .always, .q (.bin .eql .no true (.t 5) (.k (.sc (.int .i64 11))))⟩,
  ⟨(some 17), .always, .q (.mv (.t 18))⟩])
  (.cond (.t 17) (.seq (.reg [2, 3, 4] false [⟨(some 2), .always, .q (.mv (.k (.sc (.int .i64 1))))⟩,
  ⟨(some 3), .always, .q (.mv (.k (.sc (.int .i64 1))))⟩,
  ⟨(some 4), .always, .q (.mv (.k (.sc (.bool true))))⟩])
  .ret)
  .skip))))))))))))
  (.seq (.reg [2, 3, 4] false [⟨(some 2), .always, .q (.mv (.k (.sc (.int .i64 0))))⟩,
  ⟨(some 3), .always, .q (.mv (.k (.sc (.int .i64 0))))⟩,
  ⟨(some 4), .always, .q (.mv (.k (.sc (.bool false))))⟩])
  .ret)))
/-! 84 lodge/elem.of: 2 params, 1 results, 10 -/
def x84 : XC := (.seq (.reg [0, 1] false [⟨(some 4), .always, .q (.mv (.k (.sc (.bool false))))⟩])
  (.seq (.seq (.reg [0, 5] false [⟨(some 5), .always, .q (.mv (.t 1))⟩])
  (.cond (.t 5) (.seq (.reg [4] false [⟨(some 6), .always, .q (.mv (.t 0))⟩,
  ⟨(some 7), .always, .call (.k (.fn 85 [] [])) [(.t 6), (.k (.sc (.int .i64 (-2147483648)))), (.k (.sc (.int .i64 2147483647)))]⟩,
  ⟨(some 4), .always, .q (.mv (.t 7))⟩])
  .ret)
  .skip))
  (.seq (.reg [4] false [⟨(some 8), .always, .q (.mv (.t 0))⟩,
  ⟨(some 9), .always, .call (.k (.fn 85 [] [])) [(.t 8), (.k (.sc (.int .i64 (-128)))), (.k (.sc (.int .i64 127)))]⟩,
  ⟨(some 4), .always, .q (.mv (.t 9))⟩])
  .ret)))
/-! 85 lodge/elem.in: 3 params, 1 results, 15 -/
def x85 : XC := (.seq (.reg [0, 1, 2] false [⟨(some 6), .always, .q (.mv (.k (.sc (.bool false))))⟩])
  (.seq (.reg [6] false [⟨(some 7), .always, .q (.mv (.t 0))⟩,
  ⟨(some 8), .always, .q (.mv (.t 1))⟩,
  ⟨(some 9), .always, .q (.bin .geq .no false (.t 7) (.t 8))⟩,
  ⟨(some 10), .always, .q (.mv (.t 9))⟩,
  ⟨(some 11), (.on 10 true), .q (.mv (.t 0))⟩,
  ⟨(some 12), (.on 10 true), .q (.mv (.t 2))⟩,
  ⟨(some 13), (.on 10 true), .q (.bin .leq .no false (.t 11) (.t 12))⟩,
  ⟨(some 14), .always, .q (.pick (.t 10) (.t 13) (.k (.sc (.bool false))))⟩,
  ⟨(some 6), .always, .q (.mv (.t 14))⟩])
  .ret))
/-! 86 slices.Equal[[]int,int]: 2 params, 1 results, 26 -/
def b86_0 : XC := (.seq (.reg [0, 1, 12, 13, 14] false [⟨(some 14), .always, .q (.bin .lss .no false (.t 13) (.t 12))⟩])
  (.seq (.cond (.t 14) .skip
  (.exit 0))
  (.seq (.block 1 (.seq (.reg [0, 1, 5, 12, 13] false [⟨(some 15), .always, .q (.mv (.t 13))⟩,
  ⟨(some 5), .always, .q (.mv (.t 15))⟩])
  (.seq (.reg [0, 1, 12, 13, 24] true [⟨(some 16), .always, .q (.mv (.t 0))⟩,
  ⟨(some 17), .always, .q (.mv (.t 5))⟩,
  ⟨(some 18), .always, .q (.iaS 1 (.t 16) (.t 17))⟩,
  ⟨(some 19), .always, .q (.load none (.t 18))⟩,
  ⟨(some 20), .always, .q (.mv (.t 1))⟩,
  ⟨(some 21), .always, .q (.mv (.t 5))⟩,
  ⟨(some 22), .always, .q (.iaS 1 (.t 20) (.t 21))⟩,
  ⟨(some 23), .always, .q (.load none (.t 22))⟩,
  ⟨(some 24), .always, .q (.bin .neq .no false (.t 19) (.t 23))⟩])
  (.cond (.t 24) (.seq (.reg [4] false [⟨(some 4), .always, .q (.mv (.k (.sc (.bool false))))⟩])
  .ret)
  .skip))))
  (.reg [0, 1, 12, 13] false [⟨(some 25), .always, .q (.bin .add .no true (.t 13) (.k (.sc (.int .i64 1))))⟩,
  ⟨(some 13), .always, .q (.mv (.t 25))⟩]))))
def l86_0 : XC := b86_0
theorem xl86_0 {E : Env} {Q : AX → St → Prop} {s : St} : xp E l86_0 s Q = xp E b86_0 s Q := rfl
def x86 : XC := (.seq (.reg [0, 1] false [⟨(some 4), .always, .q (.mv (.k (.sc (.bool false))))⟩])
  (.seq (.seq (.reg [0, 1, 10] false [⟨(some 6), .always, .q (.mv (.t 0))⟩,
  ⟨(some 7), .always, .q (.lenL (.t 6))⟩,
  ⟨(some 8), .always, .q (.mv (.t 1))⟩,
  ⟨(some 9), .always, .q (.lenL (.t 8))⟩,
  ⟨(some 10), .always, .q (.bin .neq .no false (.t 7) (.t 9))⟩])
  (.cond (.t 10) (.seq (.reg [4] false [⟨(some 4), .always, .q (.mv (.k (.sc (.bool false))))⟩])
  .ret)
  .skip))
  (.seq (.seq (.reg [0, 1, 12, 13] false [⟨(some 11), .always, .q (.mv (.t 0))⟩,
  ⟨(some 12), .always, .q (.lenL (.t 11))⟩,
  ⟨(some 13), .always, .q (.mv (.k (.sc (.int .i64 0))))⟩])
  (.block 0 (.loop l86_0)))
  (.seq (.reg [4] false [⟨(some 4), .always, .q (.mv (.k (.sc (.bool true))))⟩])
  .ret))))

section
variable {prim : FuncId → Option (List AV → Option AV)} {tok : Nat → Value} {prot : Nat → Obj → Prop}
theorem rob3 {st : List AObj} {n off k L : Nat} {w : Bool} {c : List AV} : resOb (envOf prim tok prot) st n off k L (some (.arr c 3 w)) = ifB (decide (c.length = L)) (fsO k (o1 (mapO (res (envOf prim tok prot) st n)) (cut c off (k * 1)))) none .mk := resOb_arr (s := 1) (by kernel_rfl)
theorem rob26 {st : List AObj} {n off k L : Nat} {w : Bool} {c : List AV} : resOb (envOf prim tok prot) st n off k L (some (.arr c 26 w)) = ifB (decide (c.length = L)) (fsO k (o1 (mapO (res (envOf prim tok prot) st n)) (cut c off (k * 2)))) none .mk := resOb_arr (s := 2) (by kernel_rfl)
theorem rob38 {st : List AObj} {n off k L : Nat} {w : Bool} {c : List AV} : resOb (envOf prim tok prot) st n off k L (some (.arr c 38 w)) = ifB (decide (c.length = L)) (fsO k (o1 (mapO (res (envOf prim tok prot) st n)) (cut c off (k * 1)))) none .mk := resOb_arr (s := 1) (by kernel_rfl)
theorem rob49 {st : List AObj} {n off k L : Nat} {w : Bool} {c : List AV} : resOb (envOf prim tok prot) st n off k L (some (.arr c 49 w)) = ifB (decide (c.length = L)) (fsO k (o1 (mapO (res (envOf prim tok prot) st n)) (cut c off (k * 3)))) none .mk := resOb_arr (s := 3) (by kernel_rfl)
theorem rob60 {st : List AObj} {n off k L : Nat} {w : Bool} {c : List AV} : resOb (envOf prim tok prot) st n off k L (some (.arr c 60 w)) = ifB (decide (c.length = L)) (fsO k (o1 (mapO (res (envOf prim tok prot) st n)) (cut c off (k * 6)))) none .mk := resOb_arr (s := 6) (by kernel_rfl)
attribute [go_sem] rob3 rob26 rob38 rob49 rob60
theorem xc4 : HasCode (envOf prim tok prot) 4 103 [.t 12] x4 := ⟨Tryd.f4, _, Tryd.func4, rfl, by kernel_rfl, rfl, by kernel_rfl, by kernel_rfl⟩
theorem xc5 : HasCode (envOf prim tok prot) 5 100 [.t 4] x5 := ⟨Tryd.f5, _, Tryd.func5, rfl, by kernel_rfl, rfl, by kernel_rfl, by kernel_rfl⟩
theorem xc6 : HasCode (envOf prim tok prot) 6 156 [.t 2] x6 := ⟨Tryd.f6, _, Tryd.func6, rfl, by kernel_rfl, rfl, by kernel_rfl, by kernel_rfl⟩
theorem xc7 : HasCode (envOf prim tok prot) 7 118 [.t 8] x7 := ⟨Tryd.f7, _, Tryd.func7, rfl, by kernel_rfl, rfl, by kernel_rfl, by kernel_rfl⟩
theorem xc9 : HasCode (envOf prim tok prot) 9 12 [.t 4] x9 := ⟨Tryd.f9, _, Tryd.func9, rfl, by kernel_rfl, rfl, by kernel_rfl, by kernel_rfl⟩
theorem xc11 : HasCode (envOf prim tok prot) 11 9 [.t 4] x11 := ⟨Tryd.f11, _, Tryd.func11, rfl, by kernel_rfl, rfl, by kernel_rfl, by kernel_rfl⟩
theorem xc12 : HasCode (envOf prim tok prot) 12 11 [.c 4 (some 3)] x12 := ⟨Tryd.f12, _, Tryd.func12, rfl, by kernel_rfl, rfl, by kernel_rfl, by kernel_rfl⟩
theorem xc15 : HasCode (envOf prim tok prot) 15 10 [.t 0] x15 := ⟨Tryd.f15, _, Tryd.func15, rfl, by kernel_rfl, rfl, by kernel_rfl, by kernel_rfl⟩
theorem xc16 : HasCode (envOf prim tok prot) 16 12 [.t 2] x16 := ⟨Tryd.f16, _, Tryd.func16, rfl, by kernel_rfl, rfl, by kernel_rfl, by kernel_rfl⟩
theorem xc17 : HasCode (envOf prim tok prot) 17 25 [.t 4] x17 := ⟨Tryd.f17, _, Tryd.func17, rfl, by kernel_rfl, rfl, by kernel_rfl, by kernel_rfl⟩
theorem xc18 : HasCode (envOf prim tok prot) 18 16 [.c 2 (some 7)] x18 := ⟨Tryd.f18, _, Tryd.func18, rfl, by kernel_rfl, rfl, by kernel_rfl, by kernel_rfl⟩
theorem xc19 : HasCode (envOf prim tok prot) 19 18 [.c 2 (some 6)] x19 := ⟨Tryd.f19, _, Tryd.func19, rfl, by kernel_rfl, rfl, by kernel_rfl, by kernel_rfl⟩
theorem xc20 : HasCode (envOf prim tok prot) 20 26 [.t 2] x20 := ⟨Tryd.f20, _, Tryd.func20, rfl, by kernel_rfl, rfl, by kernel_rfl, by kernel_rfl⟩
theorem xc21 : HasCode (envOf prim tok prot) 21 82 [.t 2] x21 := ⟨Tryd.f21, _, Tryd.func21, rfl, by kernel_rfl, rfl, by kernel_rfl, by kernel_rfl⟩
theorem xc22 : HasCode (envOf prim tok prot) 22 25 [.t 4, .t 5] x22 := ⟨Tryd.f22, _, Tryd.func22, rfl, by kernel_rfl, rfl, by kernel_rfl, by kernel_rfl⟩
theorem xc23 : HasCode (envOf prim tok prot) 23 31 [.t 2, .t 3] x23 := ⟨Tryd.f23, _, Tryd.func23, rfl, by kernel_rfl, rfl, by kernel_rfl, by kernel_rfl⟩
theorem xc24 : HasCode (envOf prim tok prot) 24 9 [.t 4] x24 := ⟨Tryd.f24, _, Tryd.func24, rfl, by kernel_rfl, rfl, by kernel_rfl, by kernel_rfl⟩
theorem xc28 : HasCode (envOf prim tok prot) 28 24 [.t 4] x28 := ⟨Tryd.f28, _, Tryd.func28, rfl, by kernel_rfl, rfl, by kernel_rfl, by kernel_rfl⟩
theorem xc29 : HasCode (envOf prim tok prot) 29 38 [.c 2 (some 3)] x29 := ⟨Tryd.f29, _, Tryd.func29, rfl, by kernel_rfl, rfl, by kernel_rfl, by kernel_rfl⟩
theorem xc30 : HasCode (envOf prim tok prot) 30 2 [.c 0 (some 3)] x30 := ⟨Tryd.f30, _, Tryd.func30, rfl, by kernel_rfl, rfl, by kernel_rfl, by kernel_rfl⟩
theorem xc31 : HasCode (envOf prim tok prot) 31 22 [.t 2] x31 := ⟨Tryd.f31, _, Tryd.func31, rfl, by kernel_rfl, rfl, by kernel_rfl, by kernel_rfl⟩
theorem xc32 : HasCode (envOf prim tok prot) 32 12 [.t 2] x32 := ⟨Tryd.f32, _, Tryd.func32, rfl, by kernel_rfl, rfl, by kernel_rfl, by kernel_rfl⟩
theorem xc33 : HasCode (envOf prim tok prot) 33 22 [.t 2] x33 := ⟨Tryd.f33, _, Tryd.func33, rfl, by kernel_rfl, rfl, by kernel_rfl, by kernel_rfl⟩
theorem xc34 : HasCode (envOf prim tok prot) 34 132 [.t 2] x34 := ⟨Tryd.f34, _, Tryd.func34, rfl, by kernel_rfl, rfl, by kernel_rfl, by kernel_rfl⟩
theorem xc35 : HasCode (envOf prim tok prot) 35 14 [.t 4] x35 := ⟨Tryd.f35, _, Tryd.func35, rfl, by kernel_rfl, rfl, by kernel_rfl, by kernel_rfl⟩
theorem xc37 : HasCode (envOf prim tok prot) 37 25 [.t 6] x37 := ⟨Tryd.f37, _, Tryd.func37, rfl, by kernel_rfl, rfl, by kernel_rfl, by kernel_rfl⟩
theorem xc38 : HasCode (envOf prim tok prot) 38 7 [.t 2] x38 := ⟨Tryd.f38, _, Tryd.func38, rfl, by kernel_rfl, rfl, by kernel_rfl, by kernel_rfl⟩
theorem xc39 : HasCode (envOf prim tok prot) 39 120 [.t 4, .t 5] x39 := ⟨Tryd.f39, _, Tryd.func39, rfl, by kernel_rfl, rfl, by kernel_rfl, by kernel_rfl⟩
theorem xc40 : HasCode (envOf prim tok prot) 40 5 [.c 2 (some 3)] x40 := ⟨Tryd.f40, _, Tryd.func40, rfl, by kernel_rfl, rfl, by kernel_rfl, by kernel_rfl⟩
theorem xc42 : HasCode (envOf prim tok prot) 42 9 [.t 2] x42 := ⟨Tryd.f42, _, Tryd.func42, rfl, by kernel_rfl, rfl, by kernel_rfl, by kernel_rfl⟩
theorem xc43 : HasCode (envOf prim tok prot) 43 104 [.c 6 (some 2), .t 7] x43 := ⟨Tryd.f43, _, Tryd.func43, rfl, by kernel_rfl, rfl, by kernel_rfl, by kernel_rfl⟩
theorem xc46 : HasCode (envOf prim tok prot) 46 41 [.t 2] x46 := ⟨Tryd.f46, _, Tryd.func46, rfl, by kernel_rfl, rfl, by kernel_rfl, by kernel_rfl⟩
theorem xc47 : HasCode (envOf prim tok prot) 47 9 [.c 2 (some 2)] x47 := ⟨Tryd.f47, _, Tryd.func47, rfl, by kernel_rfl, rfl, by kernel_rfl, by kernel_rfl⟩
theorem xc48 : HasCode (envOf prim tok prot) 48 20 [.t 2] x48 := ⟨Tryd.f48, _, Tryd.func48, rfl, by kernel_rfl, rfl, by kernel_rfl, by kernel_rfl⟩
theorem xc49 : HasCode (envOf prim tok prot) 49 39 [.t 2] x49 := ⟨Tryd.f49, _, Tryd.func49, rfl, by kernel_rfl, rfl, by kernel_rfl, by kernel_rfl⟩
theorem xc50 : HasCode (envOf prim tok prot) 50 20 [.t 2] x50 := ⟨Tryd.f50, _, Tryd.func50, rfl, by kernel_rfl, rfl, by kernel_rfl, by kernel_rfl⟩
theorem xc51 : HasCode (envOf prim tok prot) 51 42 [.t 2] x51 := ⟨Tryd.f51, _, Tryd.func51, rfl, by kernel_rfl, rfl, by kernel_rfl, by kernel_rfl⟩
theorem xc52 : HasCode (envOf prim tok prot) 52 14 [.t 4] x52 := ⟨Tryd.f52, _, Tryd.func52, rfl, by kernel_rfl, rfl, by kernel_rfl, by kernel_rfl⟩
theorem xc54 : HasCode (envOf prim tok prot) 54 15 [.t 4] x54 := ⟨Tryd.f54, _, Tryd.func54, rfl, by kernel_rfl, rfl, by kernel_rfl, by kernel_rfl⟩
theorem xc55 : HasCode (envOf prim tok prot) 55 16 [.t 2] x55 := ⟨Tryd.f55, _, Tryd.func55, rfl, by kernel_rfl, rfl, by kernel_rfl, by kernel_rfl⟩
theorem xc56 : HasCode (envOf prim tok prot) 56 46 [.t 4] x56 := ⟨Tryd.f56, _, Tryd.func56, rfl, by kernel_rfl, rfl, by kernel_rfl, by kernel_rfl⟩
theorem xc57 : HasCode (envOf prim tok prot) 57 133 [.t 4, .t 5] x57 := ⟨Tryd.f57, _, Tryd.func57, rfl, by kernel_rfl, rfl, by kernel_rfl, by kernel_rfl⟩
theorem xc58 : HasCode (envOf prim tok prot) 58 15 [.t 2] x58 := ⟨Tryd.f58, _, Tryd.func58, rfl, by kernel_rfl, rfl, by kernel_rfl, by kernel_rfl⟩
theorem xc59 : HasCode (envOf prim tok prot) 59 14 [.t 2] x59 := ⟨Tryd.f59, _, Tryd.func59, rfl, by kernel_rfl, rfl, by kernel_rfl, by kernel_rfl⟩
theorem xc60 : HasCode (envOf prim tok prot) 60 88 [.c 8 (some 2), .t 9] x60 := ⟨Tryd.f60, _, Tryd.func60, rfl, by kernel_rfl, rfl, by kernel_rfl, by kernel_rfl⟩
theorem xc61 : HasCode (envOf prim tok prot) 61 153 [.c 6 (some 2), .t 7] x61 := ⟨Tryd.f61, _, Tryd.func61, rfl, by kernel_rfl, rfl, by kernel_rfl, by kernel_rfl⟩
theorem xc62 : HasCode (envOf prim tok prot) 62 86 [.c 4 (some 2), .t 5] x62 := ⟨Tryd.f62, _, Tryd.func62, rfl, by kernel_rfl, rfl, by kernel_rfl, by kernel_rfl⟩
theorem xc63 : HasCode (envOf prim tok prot) 63 58 [.c 4 (some 2), .t 5] x63 := ⟨Tryd.f63, _, Tryd.func63, rfl, by kernel_rfl, rfl, by kernel_rfl, by kernel_rfl⟩
theorem xc64 : HasCode (envOf prim tok prot) 64 39 [.c 4 (some 2), .t 5] x64 := ⟨Tryd.f64, _, Tryd.func64, rfl, by kernel_rfl, rfl, by kernel_rfl, by kernel_rfl⟩
theorem xc65 : HasCode (envOf prim tok prot) 65 29 [.c 2 (some 2), .t 3] x65 := ⟨Tryd.f65, _, Tryd.func65, rfl, by kernel_rfl, rfl, by kernel_rfl, by kernel_rfl⟩
theorem xc66 : HasCode (envOf prim tok prot) 66 146 [.c 6 (some 2), .t 7] x66 := ⟨Tryd.f66, _, Tryd.func66, rfl, by kernel_rfl, rfl, by kernel_rfl, by kernel_rfl⟩
theorem xc68 : HasCode (envOf prim tok prot) 68 17 [.t 4] x68 := ⟨Tryd.f68, _, Tryd.func68, rfl, by kernel_rfl, rfl, by kernel_rfl, by kernel_rfl⟩
theorem xc69 : HasCode (envOf prim tok prot) 69 18 [.t 4] x69 := ⟨Tryd.f69, _, Tryd.func69, rfl, by kernel_rfl, rfl, by kernel_rfl, by kernel_rfl⟩
theorem xc70 : HasCode (envOf prim tok prot) 70 8 [.t 2] x70 := ⟨Tryd.f70, _, Tryd.func70, rfl, by kernel_rfl, rfl, by kernel_rfl, by kernel_rfl⟩
theorem xc71 : HasCode (envOf prim tok prot) 71 23 [.t 0] x71 := ⟨Tryd.f71, _, Tryd.func71, rfl, by kernel_rfl, rfl, by kernel_rfl, by kernel_rfl⟩
theorem xc72 : HasCode (envOf prim tok prot) 72 20 [.t 4] x72 := ⟨Tryd.f72, _, Tryd.func72, rfl, by kernel_rfl, rfl, by kernel_rfl, by kernel_rfl⟩
theorem xc73 : HasCode (envOf prim tok prot) 73 7 [.t 2] x73 := ⟨Tryd.f73, _, Tryd.func73, rfl, by kernel_rfl, rfl, by kernel_rfl, by kernel_rfl⟩
theorem xc78 : HasCode (envOf prim tok prot) 78 26 [.t 4] x78 := ⟨Tryd.f78, _, Tryd.func78, rfl, by kernel_rfl, rfl, by kernel_rfl, by kernel_rfl⟩
theorem xc79 : HasCode (envOf prim tok prot) 79 71 [.t 6, .t 7] x79 := ⟨Tryd.f79, _, Tryd.func79, rfl, by kernel_rfl, rfl, by kernel_rfl, by kernel_rfl⟩
theorem xc80 : HasCode (envOf prim tok prot) 80 7 [.t 2] x80 := ⟨Tryd.f80, _, Tryd.func80, rfl, by kernel_rfl, rfl, by kernel_rfl, by kernel_rfl⟩
theorem xc81 : HasCode (envOf prim tok prot) 81 6 [.t 2] x81 := ⟨Tryd.f81, _, Tryd.func81, rfl, by kernel_rfl, rfl, by kernel_rfl, by kernel_rfl⟩
theorem xc82 : HasCode (envOf prim tok prot) 82 76 [.c 4 (some 2), .t 5] x82 := ⟨Tryd.f82, _, Tryd.func82, rfl, by kernel_rfl, rfl, by kernel_rfl, by kernel_rfl⟩
theorem xc83 : HasCode (envOf prim tok prot) 83 19 [.t 2, .t 3, .t 4] x83 := ⟨Tryd.f83, _, Tryd.func83, rfl, by kernel_rfl, rfl, by kernel_rfl, by kernel_rfl⟩
theorem xc84 : HasCode (envOf prim tok prot) 84 10 [.t 4] x84 := ⟨Tryd.f84, _, Tryd.func84, rfl, by kernel_rfl, rfl, by kernel_rfl, by kernel_rfl⟩
theorem xc85 : HasCode (envOf prim tok prot) 85 15 [.t 6] x85 := ⟨Tryd.f85, _, Tryd.func85, rfl, by kernel_rfl, rfl, by kernel_rfl, by kernel_rfl⟩
theorem xc86 : HasCode (envOf prim tok prot) 86 26 [.t 4] x86 := ⟨Tryd.f86, _, Tryd.func86, rfl, by kernel_rfl, rfl, by kernel_rfl, by kernel_rfl⟩
theorem fr4 : ((envOf prim tok prot).pure 4 || isPrim (envOf prim tok prot) 4) = true ∧ ∀ args st, callL (envOf prim tok prot) 4 args st = pureCall (envOf prim tok prot) 4 (ansL (envOf prim tok prot) 4) args st := ⟨rfl, fun _ _ => callL_frozen rfl _ _⟩
theorem fr5 : ((envOf prim tok prot).pure 5 || isPrim (envOf prim tok prot) 5) = true ∧ ∀ args st, callL (envOf prim tok prot) 5 args st = pureCall (envOf prim tok prot) 5 (ansL (envOf prim tok prot) 5) args st := ⟨rfl, fun _ _ => callL_frozen rfl _ _⟩
theorem fr6 : ((envOf prim tok prot).pure 6 || isPrim (envOf prim tok prot) 6) = true ∧ ∀ args st, callL (envOf prim tok prot) 6 args st = pureCall (envOf prim tok prot) 6 (ansL (envOf prim tok prot) 6) args st := ⟨rfl, fun _ _ => callL_frozen rfl _ _⟩
theorem fr7 : ((envOf prim tok prot).pure 7 || isPrim (envOf prim tok prot) 7) = true ∧ ∀ args st, callL (envOf prim tok prot) 7 args st = pureCall (envOf prim tok prot) 7 (ansL (envOf prim tok prot) 7) args st := ⟨rfl, fun _ _ => callL_frozen rfl _ _⟩
theorem fr9 : ((envOf prim tok prot).pure 9 || isPrim (envOf prim tok prot) 9) = true ∧ ∀ args st, callL (envOf prim tok prot) 9 args st = pureCall (envOf prim tok prot) 9 (ansL (envOf prim tok prot) 9) args st := ⟨rfl, fun _ _ => callL_frozen rfl _ _⟩
theorem fr11 : ((envOf prim tok prot).pure 11 || isPrim (envOf prim tok prot) 11) = true ∧ ∀ args st, callL (envOf prim tok prot) 11 args st = pureCall (envOf prim tok prot) 11 (ansL (envOf prim tok prot) 11) args st := ⟨rfl, fun _ _ => callL_frozen rfl _ _⟩
theorem fr12 : ((envOf prim tok prot).pure 12 || isPrim (envOf prim tok prot) 12) = true ∧ ∀ args st, callL (envOf prim tok prot) 12 args st = pureCall (envOf prim tok prot) 12 (ansL (envOf prim tok prot) 12) args st := ⟨rfl, fun _ _ => callL_frozen rfl _ _⟩
theorem fr15 : ((envOf prim tok prot).pure 15 || isPrim (envOf prim tok prot) 15) = true ∧ ∀ args st, callL (envOf prim tok prot) 15 args st = pureCall (envOf prim tok prot) 15 (ansL (envOf prim tok prot) 15) args st := ⟨rfl, fun _ _ => callL_frozen rfl _ _⟩
theorem fr16 : ((envOf prim tok prot).pure 16 || isPrim (envOf prim tok prot) 16) = true ∧ ∀ args st, callL (envOf prim tok prot) 16 args st = pureCall (envOf prim tok prot) 16 (ansL (envOf prim tok prot) 16) args st := ⟨rfl, fun _ _ => callL_frozen rfl _ _⟩
theorem fr17 : ((envOf prim tok prot).pure 17 || isPrim (envOf prim tok prot) 17) = true ∧ ∀ args st, callL (envOf prim tok prot) 17 args st = pureCall (envOf prim tok prot) 17 (ansL (envOf prim tok prot) 17) args st := ⟨rfl, fun _ _ => callL_frozen rfl _ _⟩
theorem fr18 : ((envOf prim tok prot).pure 18 || isPrim (envOf prim tok prot) 18) = true ∧ ∀ args st, callL (envOf prim tok prot) 18 args st = pureCall (envOf prim tok prot) 18 (ansL (envOf prim tok prot) 18) args st := ⟨rfl, fun _ _ => callL_frozen rfl _ _⟩
theorem fr20 : ((envOf prim tok prot).pure 20 || isPrim (envOf prim tok prot) 20) = true ∧ ∀ args st, callL (envOf prim tok prot) 20 args st = pureCall (envOf prim tok prot) 20 (ansL (envOf prim tok prot) 20) args st := ⟨rfl, fun _ _ => callL_frozen rfl _ _⟩
theorem fr21 : ((envOf prim tok prot).pure 21 || isPrim (envOf prim tok prot) 21) = true ∧ ∀ args st, callL (envOf prim tok prot) 21 args st = pureCall (envOf prim tok prot) 21 (ansL (envOf prim tok prot) 21) args st := ⟨rfl, fun _ _ => callL_frozen rfl _ _⟩
theorem fr22 : ((envOf prim tok prot).pure 22 || isPrim (envOf prim tok prot) 22) = true ∧ ∀ args st, callL (envOf prim tok prot) 22 args st = pureCall (envOf prim tok prot) 22 (ansL (envOf prim tok prot) 22) args st := ⟨rfl, fun _ _ => callL_frozen rfl _ _⟩
theorem fr23 : ((envOf prim tok prot).pure 23 || isPrim (envOf prim tok prot) 23) = true ∧ ∀ args st, callL (envOf prim tok prot) 23 args st = pureCall (envOf prim tok prot) 23 (ansL (envOf prim tok prot) 23) args st := ⟨rfl, fun _ _ => callL_frozen rfl _ _⟩
theorem fr24 : ((envOf prim tok prot).pure 24 || isPrim (envOf prim tok prot) 24) = true ∧ ∀ args st, callL (envOf prim tok prot) 24 args st = pureCall (envOf prim tok prot) 24 (ansL (envOf prim tok prot) 24) args st := ⟨rfl, fun _ _ => callL_frozen rfl _ _⟩
theorem fr28 : ((envOf prim tok prot).pure 28 || isPrim (envOf prim tok prot) 28) = true ∧ ∀ args st, callL (envOf prim tok prot) 28 args st = pureCall (envOf prim tok prot) 28 (ansL (envOf prim tok prot) 28) args st := ⟨rfl, fun _ _ => callL_frozen rfl _ _⟩
theorem fr29 : ((envOf prim tok prot).pure 29 || isPrim (envOf prim tok prot) 29) = true ∧ ∀ args st, callL (envOf prim tok prot) 29 args st = pureCall (envOf prim tok prot) 29 (ansL (envOf prim tok prot) 29) args st := ⟨rfl, fun _ _ => callL_frozen rfl _ _⟩
theorem fr30 : ((envOf prim tok prot).pure 30 || isPrim (envOf prim tok prot) 30) = true ∧ ∀ args st, callL (envOf prim tok prot) 30 args st = pureCall (envOf prim tok prot) 30 (ansL (envOf prim tok prot) 30) args st := ⟨rfl, fun _ _ => callL_frozen rfl _ _⟩
theorem fr31 : ((envOf prim tok prot).pure 31 || isPrim (envOf prim tok prot) 31) = true ∧ ∀ args st, callL (envOf prim tok prot) 31 args st = pureCall (envOf prim tok prot) 31 (ansL (envOf prim tok prot) 31) args st := ⟨rfl, fun _ _ => callL_frozen rfl _ _⟩
theorem fr32 : ((envOf prim tok prot).pure 32 || isPrim (envOf prim tok prot) 32) = true ∧ ∀ args st, callL (envOf prim tok prot) 32 args st = pureCall (envOf prim tok prot) 32 (ansL (envOf prim tok prot) 32) args st := ⟨rfl, fun _ _ => callL_frozen rfl _ _⟩
theorem fr33 : ((envOf prim tok prot).pure 33 || isPrim (envOf prim tok prot) 33) = true ∧ ∀ args st, callL (envOf prim tok prot) 33 args st = pureCall (envOf prim tok prot) 33 (ansL (envOf prim tok prot) 33) args st := ⟨rfl, fun _ _ => callL_frozen rfl _ _⟩
theorem fr34 : ((envOf prim tok prot).pure 34 || isPrim (envOf prim tok prot) 34) = true ∧ ∀ args st, callL (envOf prim tok prot) 34 args st = pureCall (envOf prim tok prot) 34 (ansL (envOf prim tok prot) 34) args st := ⟨rfl, fun _ _ => callL_frozen rfl _ _⟩
theorem fr35 : ((envOf prim tok prot).pure 35 || isPrim (envOf prim tok prot) 35) = true ∧ ∀ args st, callL (envOf prim tok prot) 35 args st = pureCall (envOf prim tok prot) 35 (ansL (envOf prim tok prot) 35) args st := ⟨rfl, fun _ _ => callL_frozen rfl _ _⟩
theorem fr37 : ((envOf prim tok prot).pure 37 || isPrim (envOf prim tok prot) 37) = true ∧ ∀ args st, callL (envOf prim tok prot) 37 args st = pureCall (envOf prim tok prot) 37 (ansL (envOf prim tok prot) 37) args st := ⟨rfl, fun _ _ => callL_frozen rfl _ _⟩
theorem fr38 : ((envOf prim tok prot).pure 38 || isPrim (envOf prim tok prot) 38) = true ∧ ∀ args st, callL (envOf prim tok prot) 38 args st = pureCall (envOf prim tok prot) 38 (ansL (envOf prim tok prot) 38) args st := ⟨rfl, fun _ _ => callL_frozen rfl _ _⟩
theorem fr39 : ((envOf prim tok prot).pure 39 || isPrim (envOf prim tok prot) 39) = true ∧ ∀ args st, callL (envOf prim tok prot) 39 args st = pureCall (envOf prim tok prot) 39 (ansL (envOf prim tok prot) 39) args st := ⟨rfl, fun _ _ => callL_frozen rfl _ _⟩
theorem fr40 : ((envOf prim tok prot).pure 40 || isPrim (envOf prim tok prot) 40) = true ∧ ∀ args st, callL (envOf prim tok prot) 40 args st = pureCall (envOf prim tok prot) 40 (ansL (envOf prim tok prot) 40) args st := ⟨rfl, fun _ _ => callL_frozen rfl _ _⟩
theorem fr42 : ((envOf prim tok prot).pure 42 || isPrim (envOf prim tok prot) 42) = true ∧ ∀ args st, callL (envOf prim tok prot) 42 args st = pureCall (envOf prim tok prot) 42 (ansL (envOf prim tok prot) 42) args st := ⟨rfl, fun _ _ => callL_frozen rfl _ _⟩
theorem fr43 : ((envOf prim tok prot).pure 43 || isPrim (envOf prim tok prot) 43) = true ∧ ∀ args st, callL (envOf prim tok prot) 43 args st = pureCall (envOf prim tok prot) 43 (ansL (envOf prim tok prot) 43) args st := ⟨rfl, fun _ _ => callL_frozen rfl _ _⟩
theorem fr46 : ((envOf prim tok prot).pure 46 || isPrim (envOf prim tok prot) 46) = true ∧ ∀ args st, callL (envOf prim tok prot) 46 args st = pureCall (envOf prim tok prot) 46 (ansL (envOf prim tok prot) 46) args st := ⟨rfl, fun _ _ => callL_frozen rfl _ _⟩
theorem fr47 : ((envOf prim tok prot).pure 47 || isPrim (envOf prim tok prot) 47) = true ∧ ∀ args st, callL (envOf prim tok prot) 47 args st = pureCall (envOf prim tok prot) 47 (ansL (envOf prim tok prot) 47) args st := ⟨rfl, fun _ _ => callL_frozen rfl _ _⟩
theorem fr48 : ((envOf prim tok prot).pure 48 || isPrim (envOf prim tok prot) 48) = true ∧ ∀ args st, callL (envOf prim tok prot) 48 args st = pureCall (envOf prim tok prot) 48 (ansL (envOf prim tok prot) 48) args st := ⟨rfl, fun _ _ => callL_frozen rfl _ _⟩
theorem fr49 : ((envOf prim tok prot).pure 49 || isPrim (envOf prim tok prot) 49) = true ∧ ∀ args st, callL (envOf prim tok prot) 49 args st = pureCall (envOf prim tok prot) 49 (ansL (envOf prim tok prot) 49) args st := ⟨rfl, fun _ _ => callL_frozen rfl _ _⟩
theorem fr50 : ((envOf prim tok prot).pure 50 || isPrim (envOf prim tok prot) 50) = true ∧ ∀ args st, callL (envOf prim tok prot) 50 args st = pureCall (envOf prim tok prot) 50 (ansL (envOf prim tok prot) 50) args st := ⟨rfl, fun _ _ => callL_frozen rfl _ _⟩
theorem fr51 : ((envOf prim tok prot).pure 51 || isPrim (envOf prim tok prot) 51) = true ∧ ∀ args st, callL (envOf prim tok prot) 51 args st = pureCall (envOf prim tok prot) 51 (ansL (envOf prim tok prot) 51) args st := ⟨rfl, fun _ _ => callL_frozen rfl _ _⟩
theorem fr52 : ((envOf prim tok prot).pure 52 || isPrim (envOf prim tok prot) 52) = true ∧ ∀ args st, callL (envOf prim tok prot) 52 args st = pureCall (envOf prim tok prot) 52 (ansL (envOf prim tok prot) 52) args st := ⟨rfl, fun _ _ => callL_frozen rfl _ _⟩
theorem fr54 : ((envOf prim tok prot).pure 54 || isPrim (envOf prim tok prot) 54) = true ∧ ∀ args st, callL (envOf prim tok prot) 54 args st = pureCall (envOf prim tok prot) 54 (ansL (envOf prim tok prot) 54) args st := ⟨rfl, fun _ _ => callL_frozen rfl _ _⟩
theorem fr55 : ((envOf prim tok prot).pure 55 || isPrim (envOf prim tok prot) 55) = true ∧ ∀ args st, callL (envOf prim tok prot) 55 args st = pureCall (envOf prim tok prot) 55 (ansL (envOf prim tok prot) 55) args st := ⟨rfl, fun _ _ => callL_frozen rfl _ _⟩
theorem fr56 : ((envOf prim tok prot).pure 56 || isPrim (envOf prim tok prot) 56) = true ∧ ∀ args st, callL (envOf prim tok prot) 56 args st = pureCall (envOf prim tok prot) 56 (ansL (envOf prim tok prot) 56) args st := ⟨rfl, fun _ _ => callL_frozen rfl _ _⟩
theorem fr57 : ((envOf prim tok prot).pure 57 || isPrim (envOf prim tok prot) 57) = true ∧ ∀ args st, callL (envOf prim tok prot) 57 args st = pureCall (envOf prim tok prot) 57 (ansL (envOf prim tok prot) 57) args st := ⟨rfl, fun _ _ => callL_frozen rfl _ _⟩
theorem fr58 : ((envOf prim tok prot).pure 58 || isPrim (envOf prim tok prot) 58) = true ∧ ∀ args st, callL (envOf prim tok prot) 58 args st = pureCall (envOf prim tok prot) 58 (ansL (envOf prim tok prot) 58) args st := ⟨rfl, fun _ _ => callL_frozen rfl _ _⟩
theorem fr59 : ((envOf prim tok prot).pure 59 || isPrim (envOf prim tok prot) 59) = true ∧ ∀ args st, callL (envOf prim tok prot) 59 args st = pureCall (envOf prim tok prot) 59 (ansL (envOf prim tok prot) 59) args st := ⟨rfl, fun _ _ => callL_frozen rfl _ _⟩
theorem fr60 : ((envOf prim tok prot).pure 60 || isPrim (envOf prim tok prot) 60) = true ∧ ∀ args st, callL (envOf prim tok prot) 60 args st = pureCall (envOf prim tok prot) 60 (ansL (envOf prim tok prot) 60) args st := ⟨rfl, fun _ _ => callL_frozen rfl _ _⟩
theorem fr61 : ((envOf prim tok prot).pure 61 || isPrim (envOf prim tok prot) 61) = true ∧ ∀ args st, callL (envOf prim tok prot) 61 args st = pureCall (envOf prim tok prot) 61 (ansL (envOf prim tok prot) 61) args st := ⟨rfl, fun _ _ => callL_frozen rfl _ _⟩
theorem fr62 : ((envOf prim tok prot).pure 62 || isPrim (envOf prim tok prot) 62) = true ∧ ∀ args st, callL (envOf prim tok prot) 62 args st = pureCall (envOf prim tok prot) 62 (ansL (envOf prim tok prot) 62) args st := ⟨rfl, fun _ _ => callL_frozen rfl _ _⟩
theorem fr63 : ((envOf prim tok prot).pure 63 || isPrim (envOf prim tok prot) 63) = true ∧ ∀ args st, callL (envOf prim tok prot) 63 args st = pureCall (envOf prim tok prot) 63 (ansL (envOf prim tok prot) 63) args st := ⟨rfl, fun _ _ => callL_frozen rfl _ _⟩
theorem fr64 : ((envOf prim tok prot).pure 64 || isPrim (envOf prim tok prot) 64) = true ∧ ∀ args st, callL (envOf prim tok prot) 64 args st = pureCall (envOf prim tok prot) 64 (ansL (envOf prim tok prot) 64) args st := ⟨rfl, fun _ _ => callL_frozen rfl _ _⟩
theorem fr65 : ((envOf prim tok prot).pure 65 || isPrim (envOf prim tok prot) 65) = true ∧ ∀ args st, callL (envOf prim tok prot) 65 args st = pureCall (envOf prim tok prot) 65 (ansL (envOf prim tok prot) 65) args st := ⟨rfl, fun _ _ => callL_frozen rfl _ _⟩
theorem fr66 : ((envOf prim tok prot).pure 66 || isPrim (envOf prim tok prot) 66) = true ∧ ∀ args st, callL (envOf prim tok prot) 66 args st = pureCall (envOf prim tok prot) 66 (ansL (envOf prim tok prot) 66) args st := ⟨rfl, fun _ _ => callL_frozen rfl _ _⟩
theorem fr68 : ((envOf prim tok prot).pure 68 || isPrim (envOf prim tok prot) 68) = true ∧ ∀ args st, callL (envOf prim tok prot) 68 args st = pureCall (envOf prim tok prot) 68 (ansL (envOf prim tok prot) 68) args st := ⟨rfl, fun _ _ => callL_frozen rfl _ _⟩
theorem fr69 : ((envOf prim tok prot).pure 69 || isPrim (envOf prim tok prot) 69) = true ∧ ∀ args st, callL (envOf prim tok prot) 69 args st = pureCall (envOf prim tok prot) 69 (ansL (envOf prim tok prot) 69) args st := ⟨rfl, fun _ _ => callL_frozen rfl _ _⟩
theorem fr70 : ((envOf prim tok prot).pure 70 || isPrim (envOf prim tok prot) 70) = true ∧ ∀ args st, callL (envOf prim tok prot) 70 args st = pureCall (envOf prim tok prot) 70 (ansL (envOf prim tok prot) 70) args st := ⟨rfl, fun _ _ => callL_frozen rfl _ _⟩
theorem fr71 : ((envOf prim tok prot).pure 71 || isPrim (envOf prim tok prot) 71) = true ∧ ∀ args st, callL (envOf prim tok prot) 71 args st = pureCall (envOf prim tok prot) 71 (ansL (envOf prim tok prot) 71) args st := ⟨rfl, fun _ _ => callL_frozen rfl _ _⟩
theorem fr72 : ((envOf prim tok prot).pure 72 || isPrim (envOf prim tok prot) 72) = true ∧ ∀ args st, callL (envOf prim tok prot) 72 args st = pureCall (envOf prim tok prot) 72 (ansL (envOf prim tok prot) 72) args st := ⟨rfl, fun _ _ => callL_frozen rfl _ _⟩
theorem fr73 : ((envOf prim tok prot).pure 73 || isPrim (envOf prim tok prot) 73) = true ∧ ∀ args st, callL (envOf prim tok prot) 73 args st = pureCall (envOf prim tok prot) 73 (ansL (envOf prim tok prot) 73) args st := ⟨rfl, fun _ _ => callL_frozen rfl _ _⟩
theorem fr78 : ((envOf prim tok prot).pure 78 || isPrim (envOf prim tok prot) 78) = true ∧ ∀ args st, callL (envOf prim tok prot) 78 args st = pureCall (envOf prim tok prot) 78 (ansL (envOf prim tok prot) 78) args st := ⟨rfl, fun _ _ => callL_frozen rfl _ _⟩
theorem fr79 : ((envOf prim tok prot).pure 79 || isPrim (envOf prim tok prot) 79) = true ∧ ∀ args st, callL (envOf prim tok prot) 79 args st = pureCall (envOf prim tok prot) 79 (ansL (envOf prim tok prot) 79) args st := ⟨rfl, fun _ _ => callL_frozen rfl _ _⟩
theorem fr80 : ((envOf prim tok prot).pure 80 || isPrim (envOf prim tok prot) 80) = true ∧ ∀ args st, callL (envOf prim tok prot) 80 args st = pureCall (envOf prim tok prot) 80 (ansL (envOf prim tok prot) 80) args st := ⟨rfl, fun _ _ => callL_frozen rfl _ _⟩
theorem fr81 : ((envOf prim tok prot).pure 81 || isPrim (envOf prim tok prot) 81) = true ∧ ∀ args st, callL (envOf prim tok prot) 81 args st = pureCall (envOf prim tok prot) 81 (ansL (envOf prim tok prot) 81) args st := ⟨rfl, fun _ _ => callL_frozen rfl _ _⟩
theorem fr82 : ((envOf prim tok prot).pure 82 || isPrim (envOf prim tok prot) 82) = true ∧ ∀ args st, callL (envOf prim tok prot) 82 args st = pureCall (envOf prim tok prot) 82 (ansL (envOf prim tok prot) 82) args st := ⟨rfl, fun _ _ => callL_frozen rfl _ _⟩
theorem fr83 : ((envOf prim tok prot).pure 83 || isPrim (envOf prim tok prot) 83) = true ∧ ∀ args st, callL (envOf prim tok prot) 83 args st = pureCall (envOf prim tok prot) 83 (ansL (envOf prim tok prot) 83) args st := ⟨rfl, fun _ _ => callL_frozen rfl _ _⟩
theorem fr84 : ((envOf prim tok prot).pure 84 || isPrim (envOf prim tok prot) 84) = true ∧ ∀ args st, callL (envOf prim tok prot) 84 args st = pureCall (envOf prim tok prot) 84 (ansL (envOf prim tok prot) 84) args st := ⟨rfl, fun _ _ => callL_frozen rfl _ _⟩
theorem fr85 : ((envOf prim tok prot).pure 85 || isPrim (envOf prim tok prot) 85) = true ∧ ∀ args st, callL (envOf prim tok prot) 85 args st = pureCall (envOf prim tok prot) 85 (ansL (envOf prim tok prot) 85) args st := ⟨rfl, fun _ _ => callL_frozen rfl _ _⟩
theorem fr86 : ((envOf prim tok prot).pure 86 || isPrim (envOf prim tok prot) 86) = true ∧ ∀ args st, callL (envOf prim tok prot) 86 args st = pureCall (envOf prim tok prot) 86 (ansL (envOf prim tok prot) 86) args st := ⟨rfl, fun _ _ => callL_frozen rfl _ _⟩
attribute [go_sem] fr4 fr5 fr6 fr7 fr9 fr11 fr12 fr15 fr16 fr17 fr18 fr20 fr21 fr22 fr23 fr24 fr28 fr29 fr30 fr31 fr32 fr33 fr34 fr35 fr37 fr38 fr39 fr40 fr42 fr43 fr46 fr47 fr48 fr49 fr50 fr51 fr52 fr54 fr55 fr56 fr57 fr58 fr59 fr60 fr61 fr62 fr63 fr64 fr65 fr66 fr68 fr69 fr70 fr71 fr72 fr73 fr78 fr79 fr80 fr81 fr82 fr83 fr84 fr85 fr86
end
end Go.Proofs.YtcfaajaccbadbaaDoor
