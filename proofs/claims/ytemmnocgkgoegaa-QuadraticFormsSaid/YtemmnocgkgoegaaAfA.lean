/- The functions of the cut in the machine's form, printed by a program of this claim's own; each is the translation of the loaded function. No condition. -/
import Derived.Test.YtemmnocgkgoegaaRows
import Derived.Test.YtemmnocgkgoegaaAm23
set_option maxRecDepth 100000
namespace Go.AM
open Go
def af2 : AFn := ⟨1, [], .ops [⟨some 0, .call (.lit (.fn (.func 1) [] [])) [], none⟩]⟩
theorem ok2 : FnOK Go.Proofs.Try.prog 2 af2 := ⟨Go.Proofs.Try.f2, Go.Proofs.Try.func2, by kernel_rfl, by kernel_rfl⟩
def af3 : AFn := ⟨99, [.tmp 2], .seq (.ops [⟨some 2, .mov (.lit (.bool false)), none⟩])
 (.seq (.ops [⟨some 12, .mov (.tmp 0), none⟩,
     ⟨some 13, .call (.lit (.fn (.func 12) [] [])) [.tmp 12], none⟩,
     ⟨some 11, .mov (.tmp 13), none⟩,
     ⟨some 14, .extr 0 (.tmp 11), none⟩,
     ⟨some 15, .extr 1 (.tmp 11), none⟩,
     ⟨some 16, .extr 2 (.tmp 11), none⟩,
     ⟨some 3, .mov (.tmp 14), none⟩,
     ⟨some 4, .mov (.tmp 15), none⟩,
     ⟨some 5, .mov (.tmp 16), none⟩])
  (.seq (.ops [⟨some 18, .mov (.tmp 0), none⟩,
      ⟨some 19, .call (.lit (.fn (.func 13) [] [])) [.tmp 18], none⟩,
      ⟨some 17, .mov (.tmp 19), none⟩,
      ⟨some 20, .extr 0 (.tmp 17), none⟩,
      ⟨some 21, .extr 1 (.tmp 17), none⟩,
      ⟨some 6, .mov (.tmp 20), none⟩,
      ⟨some 7, .mov (.tmp 21), none⟩])
   (.seq (.seq (.ops [⟨some 22, .mov (.tmp 0), none⟩,
        ⟨some 23, .call (.lit (.fn (.func 14) [] [])) [.tmp 22], none⟩,
        ⟨some 24, .mov (.tmp 0), none⟩,
        ⟨some 25, .call (.lit (.fn (.func 15) [] [])) [.tmp 24], none⟩,
        ⟨some 26, .bin .neq .bool (.tmp 23) (.tmp 25), none⟩])
     (.cond (.tmp 26) (.seq (.ops [⟨some 2, .mov (.lit (.bool false)), none⟩])
       .ret) .skip))
    (.seq (.ops [⟨some 27, .mov (.tmp 0), none⟩,
        ⟨some 28, .call (.lit (.fn (.func 16) [] [])) [.tmp 27], none⟩,
        ⟨some 8, .mov (.tmp 28), none⟩])
     (.seq (.seq (.ops [⟨some 29, .mov (.tmp 8), none⟩,
          ⟨some 30, .bin .eql .no (.tmp 29) (.lit (.int .i64 0)), none⟩,
          ⟨some 31, .mov (.tmp 30), none⟩,
          ⟨some 32, .mov (.tmp 0), some (31, true)⟩,
          ⟨some 33, .bin .eql .no (.tmp 32) (.lit (.int .i64 0)), some (31, true)⟩,
          ⟨some 34, .pick (.tmp 31) (.tmp 33) (.lit (.bool false)), none⟩])
       (.cond (.tmp 34) (.ops [⟨some 8, .mov (.lit (.int .i64 6)), none⟩]) .skip))
      (.seq (.seq (.ops [⟨some 35, .mov (.tmp 8), none⟩,
           ⟨some 36, .bin .neq .no (.tmp 35) (.lit (.int .i64 0)), none⟩])
        (.cond (.tmp 36) (.seq (.ops [⟨some 37, .mov (.tmp 5), none⟩,
             ⟨some 38, .mov (.tmp 8), none⟩,
             ⟨some 39, .bin .eql .no (.tmp 37) (.tmp 38), none⟩,
             ⟨some 40, .mov (.tmp 39), none⟩,
             ⟨some 41, .mov (.tmp 3), some (40, true)⟩,
             ⟨some 42, .bin .eql .no (.tmp 41) (.lit (.int .i64 0)), some (40, true)⟩,
             ⟨some 43, .pick (.tmp 40) (.tmp 42) (.lit (.bool false)), none⟩,
             ⟨some 44, .mov (.tmp 43), none⟩,
             ⟨some 45, .mov (.tmp 4), some (44, true)⟩,
             ⟨some 46, .bin .eql .no (.tmp 45) (.lit (.int .i64 0)), some (44, true)⟩,
             ⟨some 47, .pick (.tmp 44) (.tmp 46) (.lit (.bool false)), none⟩,
             ⟨some 48, .mov (.tmp 47), none⟩,
             ⟨some 49, .mov (.tmp 7), some (48, true)⟩,
             ⟨some 50, .mov (.tmp 8), some (48, true)⟩,
             ⟨some 51, .bin .eql .no (.tmp 49) (.tmp 50), some (48, true)⟩,
             ⟨some 52, .pick (.tmp 48) (.tmp 51) (.lit (.bool false)), none⟩,
             ⟨some 53, .mov (.tmp 52), none⟩,
             ⟨some 54, .mov (.tmp 6), some (53, true)⟩,
             ⟨some 55, .bin .eql .no (.tmp 54) (.lit (.int .i64 0)), some (53, true)⟩,
             ⟨some 56, .pick (.tmp 53) (.tmp 55) (.lit (.bool false)), none⟩,
             ⟨some 57, .mov (.tmp 56), none⟩,
             ⟨some 58, .call (.lit (.fn (.func 17) [] [])) [], some (57, true)⟩,
             ⟨some 59, .pick (.tmp 57) (.tmp 58) (.lit (.bool false)), none⟩,
             ⟨some 2, .mov (.tmp 59), none⟩])
          .ret) .skip))
       (.seq (.ops [⟨some 61, .mov (.tmp 0), none⟩,
           ⟨some 62, .call (.lit (.fn (.func 18) [] [])) [.tmp 61], none⟩,
           ⟨some 60, .mov (.tmp 62), none⟩,
           ⟨some 63, .extr 0 (.tmp 60), none⟩,
           ⟨some 64, .extr 1 (.tmp 60), none⟩,
           ⟨some 9, .mov (.tmp 63), none⟩,
           ⟨some 10, .mov (.tmp 64), none⟩])
        (.seq (.seq (.ops [⟨some 65, .mov (.tmp 5), none⟩,
             ⟨some 66, .bin .neq .no (.tmp 65) (.lit (.int .i64 0)), none⟩,
             ⟨some 67, .mov (.tmp 66), none⟩,
             ⟨some 68, .mov (.tmp 3), some (67, false)⟩,
             ⟨some 69, .mov (.tmp 9), some (67, false)⟩,
             ⟨some 70, .bin .neq .no (.tmp 68) (.tmp 69), some (67, false)⟩,
             ⟨some 71, .pick (.tmp 67) (.lit (.bool true)) (.tmp 70), none⟩,
             ⟨some 72, .mov (.tmp 71), none⟩,
             ⟨some 73, .mov (.tmp 4), some (72, false)⟩,
             ⟨some 74, .mov (.tmp 10), some (72, false)⟩,
             ⟨some 75, .bin .neq .no (.tmp 73) (.tmp 74), some (72, false)⟩,
             ⟨some 76, .pick (.tmp 72) (.lit (.bool true)) (.tmp 75), none⟩])
          (.cond (.tmp 76) (.seq (.ops [⟨some 2, .mov (.lit (.bool false)), none⟩])
            .ret) .skip))
         (.seq (.seq (.ops [⟨some 77, .mov (.tmp 9), none⟩,
              ⟨some 78, .bin .eql .no (.tmp 77) (.lit (.int .i64 1)), none⟩])
           (.cond (.tmp 78) (.seq (.ops [⟨some 79, .mov (.tmp 7), none⟩,
                ⟨some 80, .bin .eql .no (.tmp 79) (.lit (.int .i64 26)), none⟩,
                ⟨some 81, .mov (.tmp 80), none⟩,
                ⟨some 82, .mov (.tmp 6), some (81, true)⟩,
                ⟨some 83, .bin .eql .no (.tmp 82) (.lit (.int .i64 0)), some (81, true)⟩,
                ⟨some 84, .pick (.tmp 81) (.tmp 83) (.lit (.bool false)), none⟩,
                ⟨some 85, .mov (.tmp 84), none⟩,
                ⟨some 86, .call (.lit (.fn (.func 17) [] [])) [], some (85, true)⟩,
                ⟨some 87, .pick (.tmp 85) (.tmp 86) (.lit (.bool false)), none⟩,
                ⟨some 2, .mov (.tmp 87), none⟩])
             .ret) .skip))
          (.seq (.ops [⟨some 88, .mov (.tmp 7), none⟩,
              ⟨some 89, .bin .eql .no (.tmp 88) (.lit (.int .i64 0)), none⟩,
              ⟨some 90, .mov (.tmp 89), none⟩,
              ⟨some 91, .mov (.tmp 6), some (90, true)⟩,
              ⟨some 92, .mov (.tmp 0), some (90, true)⟩,
              ⟨some 93, .call (.lit (.fn (.func 19) [] [])) [.tmp 92], some (90, true)⟩,
              ⟨some 94, .bin .eql .no (.tmp 91) (.tmp 93), some (90, true)⟩,
              ⟨some 95, .pick (.tmp 90) (.tmp 94) (.lit (.bool false)), none⟩,
              ⟨some 96, .mov (.tmp 95), none⟩,
              ⟨some 97, .call (.lit (.fn (.func 17) [] [])) [], some (96, true)⟩,
              ⟨some 98, .pick (.tmp 96) (.tmp 97) (.lit (.bool false)), none⟩,
              ⟨some 2, .mov (.tmp 98), none⟩])
           .ret))))))))))⟩
theorem ok3 : FnOK Go.Proofs.Try.prog 3 af3 := ⟨Go.Proofs.Try.f3, Go.Proofs.Try.func3, by kernel_rfl, by kernel_rfl⟩
def af4 : AFn := ⟨69, [.tmp 2], .seq (.ops [⟨some 2, .mov (.lit (.bool false)), none⟩])
 (.seq (.ops [⟨some 10, .mov (.tmp 0), none⟩,
     ⟨some 11, .call (.lit (.fn (.func 20) [] [])) [.tmp 10], none⟩,
     ⟨some 9, .mov (.tmp 11), none⟩,
     ⟨some 12, .extr 0 (.tmp 9), none⟩,
     ⟨some 13, .extr 1 (.tmp 9), none⟩,
     ⟨some 14, .extr 2 (.tmp 9), none⟩,
     ⟨some 3, .alloc [.bool false, .str [], .bool false, .str []], none⟩,
     ⟨none, .store 4 (.tmp 3) (.tmp 12), none⟩,
     ⟨some 4, .mov (.tmp 13), none⟩,
     ⟨some 5, .mov (.tmp 14), none⟩])
  (.seq (.ops [⟨some 15, .mov (.tmp 0), none⟩,
      ⟨some 16, .call (.lit (.fn (.func 16) [] [])) [.tmp 15], none⟩,
      ⟨some 6, .mov (.tmp 16), none⟩])
   (.seq (.seq (.ops [⟨some 17, .mov (.tmp 6), none⟩,
        ⟨some 18, .bin .eql .no (.tmp 17) (.lit (.int .i64 0)), none⟩,
        ⟨some 19, .mov (.tmp 18), none⟩,
        ⟨some 20, .mov (.tmp 0), some (19, true)⟩,
        ⟨some 21, .bin .lss .no (.tmp 20) (.lit (.int .i64 0)), some (19, true)⟩,
        ⟨some 22, .mov (.tmp 21), some (19, true)⟩,
        ⟨some 23, .mov (.tmp 0), some (22, false)⟩,
        ⟨some 24, .bin .gtr .no (.tmp 23) (.lit (.int .i64 1000)), some (22, false)⟩,
        ⟨some 25, .pick (.tmp 22) (.lit (.bool true)) (.tmp 24), some (19, true)⟩,
        ⟨some 26, .mov (.tmp 25), some (19, true)⟩,
        ⟨some 27, .mov (.tmp 0), some (26, false)⟩,
        ⟨some 28, .call (.lit (.fn (.func 15) [] [])) [.tmp 27], some (26, false)⟩,
        ⟨some 29, .un .not (.tmp 28), some (26, false)⟩,
        ⟨some 30, .pick (.tmp 26) (.lit (.bool true)) (.tmp 29), some (19, true)⟩,
        ⟨some 31, .pick (.tmp 19) (.tmp 30) (.lit (.bool false)), none⟩])
     (.cond (.tmp 31) (.ops [⟨some 6, .mov (.lit (.int .i64 3)), none⟩]) .skip))
    (.seq (.seq (.ops [⟨some 32, .mov (.tmp 6), none⟩,
         ⟨some 33, .bin .neq .no (.tmp 32) (.lit (.int .i64 0)), none⟩])
      (.cond (.tmp 33) (.seq (.ops [⟨some 34, .mov (.tmp 5), none⟩,
           ⟨some 35, .mov (.tmp 6), none⟩,
           ⟨some 36, .bin .eql .no (.tmp 34) (.tmp 35), none⟩,
           ⟨some 37, .mov (.tmp 36), none⟩,
           ⟨some 38, .load (some 4) (.tmp 3), some (37, true)⟩,
           ⟨some 39, .build [.bool false, .str [], .bool false, .str []] [], some (37, true)⟩,
           ⟨some 40, .bin .eql (.flat [0, 2, 0, 2]) (.tmp 38) (.tmp 39), some (37, true)⟩,
           ⟨some 41, .pick (.tmp 37) (.tmp 40) (.lit (.bool false)), none⟩,
           ⟨some 42, .mov (.tmp 41), none⟩,
           ⟨some 43, .mov (.tmp 4), some (42, true)⟩,
           ⟨some 44, .bin .eql .no (.tmp 43) (.lit (.int .i64 0)), some (42, true)⟩,
           ⟨some 45, .pick (.tmp 42) (.tmp 44) (.lit (.bool false)), none⟩,
           ⟨some 46, .mov (.tmp 45), none⟩,
           ⟨some 47, .call (.lit (.fn (.func 17) [] [])) [], some (46, true)⟩,
           ⟨some 48, .pick (.tmp 46) (.tmp 47) (.lit (.bool false)), none⟩,
           ⟨some 2, .mov (.tmp 48), none⟩])
        .ret) .skip))
     (.seq (.ops [⟨some 50, .mov (.tmp 0), none⟩,
         ⟨some 51, .call (.lit (.fn (.func 21) [] [])) [.tmp 50], none⟩,
         ⟨some 49, .mov (.tmp 51), none⟩,
         ⟨some 52, .extr 0 (.tmp 49), none⟩,
         ⟨some 53, .extr 1 (.tmp 49), none⟩,
         ⟨some 7, .alloc [.bool false, .str [], .bool false, .str []], none⟩,
         ⟨none, .store 4 (.tmp 7) (.tmp 52), none⟩,
         ⟨some 8, .mov (.tmp 53), none⟩])
      (.seq (.ops [⟨some 54, .mov (.tmp 5), none⟩,
          ⟨some 55, .bin .eql .no (.tmp 54) (.lit (.int .i64 0)), none⟩,
          ⟨some 56, .mov (.tmp 55), none⟩,
          ⟨some 57, .load (some 4) (.tmp 3), some (56, true)⟩,
          ⟨some 58, .load (some 4) (.tmp 7), some (56, true)⟩,
          ⟨some 59, .bin .eql (.flat [0, 2, 0, 2]) (.tmp 57) (.tmp 58), some (56, true)⟩,
          ⟨some 60, .pick (.tmp 56) (.tmp 59) (.lit (.bool false)), none⟩,
          ⟨some 61, .mov (.tmp 60), none⟩,
          ⟨some 62, .mov (.tmp 4), some (61, true)⟩,
          ⟨some 63, .mov (.tmp 8), some (61, true)⟩,
          ⟨some 64, .bin .eql .no (.tmp 62) (.tmp 63), some (61, true)⟩,
          ⟨some 65, .pick (.tmp 61) (.tmp 64) (.lit (.bool false)), none⟩,
          ⟨some 66, .mov (.tmp 65), none⟩,
          ⟨some 67, .call (.lit (.fn (.func 17) [] [])) [], some (66, true)⟩,
          ⟨some 68, .pick (.tmp 66) (.tmp 67) (.lit (.bool false)), none⟩,
          ⟨some 2, .mov (.tmp 68), none⟩])
       .ret))))))⟩
theorem ok4 : FnOK Go.Proofs.Try.prog 4 af4 := ⟨Go.Proofs.Try.f4, Go.Proofs.Try.func4, by kernel_rfl, by kernel_rfl⟩
def af5 : AFn := ⟨52, [.tmp 2], .seq (.ops [⟨some 2, .mov (.lit (.bool false)), none⟩])
 (.seq (.ops [⟨some 7, .mov (.tmp 0), none⟩,
     ⟨some 8, .call (.lit (.fn (.func 22) [] [])) [.tmp 7], none⟩,
     ⟨some 6, .mov (.tmp 8), none⟩,
     ⟨some 9, .extr 0 (.tmp 6), none⟩,
     ⟨some 10, .extr 1 (.tmp 6), none⟩,
     ⟨some 3, .mov (.tmp 9), none⟩,
     ⟨some 4, .mov (.tmp 10), none⟩])
  (.seq (.ops [⟨some 11, .mov (.tmp 0), none⟩,
      ⟨some 12, .call (.lit (.fn (.func 16) [] [])) [.tmp 11], none⟩,
      ⟨some 5, .mov (.tmp 12), none⟩])
   (.seq (.seq (.ops [⟨some 13, .mov (.tmp 5), none⟩,
        ⟨some 14, .bin .eql .no (.tmp 13) (.lit (.int .i64 0)), none⟩,
        ⟨some 15, .mov (.tmp 14), none⟩,
        ⟨some 16, .mov (.tmp 0), some (15, true)⟩,
        ⟨some 17, .bin .gtr .no (.tmp 16) (.lit (.int .i64 0)), some (15, true)⟩,
        ⟨some 18, .mov (.tmp 17), some (15, true)⟩,
        ⟨some 19, .mov (.tmp 0), some (18, false)⟩,
        ⟨some 20, .bin .lss .no (.tmp 19) (.lit (.int .i64 (-10000))), some (18, false)⟩,
        ⟨some 21, .pick (.tmp 18) (.lit (.bool true)) (.tmp 20), some (15, true)⟩,
        ⟨some 22, .mov (.tmp 21), some (15, true)⟩,
        ⟨some 23, .mov (.tmp 0), some (22, false)⟩,
        ⟨some 24, .call (.lit (.fn (.func 15) [] [])) [.tmp 23], some (22, false)⟩,
        ⟨some 25, .un .not (.tmp 24), some (22, false)⟩,
        ⟨some 26, .pick (.tmp 22) (.lit (.bool true)) (.tmp 25), some (15, true)⟩,
        ⟨some 27, .pick (.tmp 15) (.tmp 26) (.lit (.bool false)), none⟩])
     (.cond (.tmp 27) (.ops [⟨some 5, .mov (.lit (.int .i64 3)), none⟩]) .skip))
    (.seq (.seq (.ops [⟨some 28, .mov (.tmp 5), none⟩,
         ⟨some 29, .bin .neq .no (.tmp 28) (.lit (.int .i64 0)), none⟩])
      (.cond (.tmp 29) (.seq (.ops [⟨some 30, .mov (.tmp 4), none⟩,
           ⟨some 31, .mov (.tmp 5), none⟩,
           ⟨some 32, .bin .eql .no (.tmp 30) (.tmp 31), none⟩,
           ⟨some 33, .mov (.tmp 32), none⟩,
           ⟨some 34, .mov (.tmp 3), some (33, true)⟩,
           ⟨some 35, .len 1 (.tmp 34), some (33, true)⟩,
           ⟨some 36, .bin .eql .no (.tmp 35) (.lit (.int .i64 0)), some (33, true)⟩,
           ⟨some 37, .pick (.tmp 33) (.tmp 36) (.lit (.bool false)), none⟩,
           ⟨some 38, .mov (.tmp 37), none⟩,
           ⟨some 39, .call (.lit (.fn (.func 17) [] [])) [], some (38, true)⟩,
           ⟨some 40, .pick (.tmp 38) (.tmp 39) (.lit (.bool false)), none⟩,
           ⟨some 2, .mov (.tmp 40), none⟩])
        .ret) .skip))
     (.seq (.ops [⟨some 41, .mov (.tmp 4), none⟩,
         ⟨some 42, .bin .eql .no (.tmp 41) (.lit (.int .i64 0)), none⟩,
         ⟨some 43, .mov (.tmp 42), none⟩,
         ⟨some 44, .mov (.tmp 3), some (43, true)⟩,
         ⟨some 45, .mov (.tmp 0), some (43, true)⟩,
         ⟨some 46, .call (.lit (.fn (.func 24) [] [])) [.tmp 45], some (43, true)⟩,
         ⟨some 47, .call (.lit (.fn (.func 23) [] [])) [.tmp 44, .tmp 46], some (43, true)⟩,
         ⟨some 48, .pick (.tmp 43) (.tmp 47) (.lit (.bool false)), none⟩,
         ⟨some 49, .mov (.tmp 48), none⟩,
         ⟨some 50, .call (.lit (.fn (.func 17) [] [])) [], some (49, true)⟩,
         ⟨some 51, .pick (.tmp 49) (.tmp 50) (.lit (.bool false)), none⟩,
         ⟨some 2, .mov (.tmp 51), none⟩])
      .ret)))))⟩
theorem ok5 : FnOK Go.Proofs.Try.prog 5 af5 := ⟨Go.Proofs.Try.f5, Go.Proofs.Try.func5, by kernel_rfl, by kernel_rfl⟩
def af6 : AFn := ⟨52, [.tmp 2], .seq (.ops [⟨some 1, .box (.tmp 0), none⟩,
    ⟨some 2, .mov (.lit (.bool false)), none⟩])
 (.seq (.ops [⟨some 7, .load (some 3) (.tmp 1), none⟩,
     ⟨some 8, .call (.lit (.fn (.func 25) [] [])) [.tmp 7], none⟩,
     ⟨some 6, .mov (.tmp 8), none⟩,
     ⟨some 9, .extr 0 (.tmp 6), none⟩,
     ⟨some 10, .extr 1 (.tmp 6), none⟩,
     ⟨some 3, .alloc [.int .i64 0, .int .i64 0, .int .i64 0], none⟩,
     ⟨none, .store 3 (.tmp 3) (.tmp 9), none⟩,
     ⟨some 4, .mov (.tmp 10), none⟩])
  (.seq (.draw [(⟨some 11, .faddr 0 (.tmp 1), none⟩, 0),
      (⟨some 12, .load none (.tmp 11), none⟩, 0),
      (⟨some 14, .faddr 1 (.tmp 1), none⟩, 0),
      (⟨some 15, .load none (.tmp 14), none⟩, 1),
      (⟨some 17, .faddr 2 (.tmp 1), none⟩, 0),
      (⟨some 18, .load none (.tmp 17), none⟩, 2),
      (⟨some 13, .call (.lit (.fn (.func 16) [] [])) [.tmp 12], none⟩, 0),
      (⟨some 16, .call (.lit (.fn (.func 16) [] [])) [.tmp 15], none⟩, 0),
      (⟨some 19, .call (.lit (.fn (.func 16) [] [])) [.tmp 18], none⟩, 0),
      (⟨some 20, .mx [.tmp 13, .tmp 16, .tmp 19], none⟩, 0),
      (⟨some 5, .mov (.tmp 20), none⟩, 0)])
   (.seq (.seq (.ops [⟨some 21, .mov (.tmp 5), none⟩,
        ⟨some 22, .bin .eql .no (.tmp 21) (.lit (.int .i64 0)), none⟩,
        ⟨some 23, .mov (.tmp 22), none⟩,
        ⟨some 24, .load (some 3) (.tmp 1), some (23, true)⟩,
        ⟨some 25, .call (.lit (.fn (.func 26) [] [])) [.tmp 24], some (23, true)⟩,
        ⟨some 26, .un .not (.tmp 25), some (23, true)⟩,
        ⟨some 27, .pick (.tmp 23) (.tmp 26) (.lit (.bool false)), none⟩])
     (.cond (.tmp 27) (.ops [⟨some 5, .mov (.lit (.int .i64 3)), none⟩]) .skip))
    (.seq (.seq (.ops [⟨some 28, .mov (.tmp 5), none⟩,
         ⟨some 29, .bin .neq .no (.tmp 28) (.lit (.int .i64 0)), none⟩])
      (.cond (.tmp 29) (.seq (.ops [⟨some 30, .mov (.tmp 4), none⟩,
           ⟨some 31, .mov (.tmp 5), none⟩,
           ⟨some 32, .bin .eql .no (.tmp 30) (.tmp 31), none⟩,
           ⟨some 33, .mov (.tmp 32), none⟩,
           ⟨some 34, .load (some 3) (.tmp 3), some (33, true)⟩,
           ⟨some 35, .build [.int .i64 0, .int .i64 0, .int .i64 0] [], some (33, true)⟩,
           ⟨some 36, .bin .eql (.flat [1, 1, 1]) (.tmp 34) (.tmp 35), some (33, true)⟩,
           ⟨some 37, .pick (.tmp 33) (.tmp 36) (.lit (.bool false)), none⟩,
           ⟨some 38, .mov (.tmp 37), none⟩,
           ⟨some 39, .call (.lit (.fn (.func 17) [] [])) [], some (38, true)⟩,
           ⟨some 40, .pick (.tmp 38) (.tmp 39) (.lit (.bool false)), none⟩,
           ⟨some 2, .mov (.tmp 40), none⟩])
        .ret) .skip))
     (.seq (.draw [(⟨some 41, .mov (.tmp 4), none⟩, 0),
         (⟨some 42, .bin .eql .no (.tmp 41) (.lit (.int .i64 0)), none⟩, 0),
         (⟨some 43, .mov (.tmp 42), none⟩, 0),
         (⟨some 44, .load (some 3) (.tmp 3), some (43, true)⟩, 1),
         (⟨some 45, .load (some 3) (.tmp 1), some (43, true)⟩, 0),
         (⟨some 46, .call (.lit (.fn (.func 27) [] [])) [.tmp 45], some (43, true)⟩, 0),
         (⟨some 47, .bin .eql (.flat [1, 1, 1]) (.tmp 44) (.tmp 46), some (43, true)⟩, 0),
         (⟨some 48, .pick (.tmp 43) (.tmp 47) (.lit (.bool false)), none⟩, 0),
         (⟨some 49, .mov (.tmp 48), none⟩, 0),
         (⟨some 50, .call (.lit (.fn (.func 17) [] [])) [], some (49, true)⟩, 0),
         (⟨some 51, .pick (.tmp 49) (.tmp 50) (.lit (.bool false)), none⟩, 0),
         (⟨some 2, .mov (.tmp 51), none⟩, 0)])
      .ret)))))⟩
theorem ok6 : FnOK Go.Proofs.Try.prog 6 af6 := ⟨Go.Proofs.Try.f6, Go.Proofs.Try.func6, by kernel_rfl, by kernel_rfl⟩
def af7 : AFn := ⟨99, [.tmp 4], .seq (.ops [⟨some 4, .mov (.lit (.bool false)), none⟩])
 (.seq (.ops [⟨some 13, .mov (.tmp 0), none⟩,
     ⟨some 14, .mov (.tmp 1), none⟩,
     ⟨some 15, .call (.lit (.fn (.func 28) [] [])) [.tmp 13, .tmp 14], none⟩,
     ⟨some 12, .mov (.tmp 15), none⟩,
     ⟨some 16, .extr 0 (.tmp 12), none⟩,
     ⟨some 17, .extr 1 (.tmp 12), none⟩,
     ⟨some 18, .extr 2 (.tmp 12), none⟩,
     ⟨some 5, .mov (.tmp 16), none⟩,
     ⟨some 6, .mov (.tmp 17), none⟩,
     ⟨some 7, .mov (.tmp 18), none⟩])
  (.seq (.ops [⟨some 19, .mov (.tmp 0), none⟩,
      ⟨some 20, .call (.lit (.fn (.func 16) [] [])) [.tmp 19], none⟩,
      ⟨some 21, .mov (.tmp 1), none⟩,
      ⟨some 22, .call (.lit (.fn (.func 16) [] [])) [.tmp 21], none⟩,
      ⟨some 23, .mx [.tmp 20, .tmp 22], none⟩,
      ⟨some 8, .mov (.tmp 23), none⟩])
   (.seq (.seq (.ops [⟨some 24, .mov (.tmp 8), none⟩,
        ⟨some 25, .bin .eql .no (.tmp 24) (.lit (.int .i64 0)), none⟩,
        ⟨some 26, .mov (.tmp 25), none⟩,
        ⟨some 27, .mov (.tmp 0), some (26, true)⟩,
        ⟨some 28, .bin .gtr .no (.tmp 27) (.lit (.int .i64 0)), some (26, true)⟩,
        ⟨some 29, .mov (.tmp 28), some (26, true)⟩,
        ⟨some 30, .mov (.tmp 0), some (29, false)⟩,
        ⟨some 31, .call (.lit (.fn (.func 15) [] [])) [.tmp 30], some (29, false)⟩,
        ⟨some 32, .un .not (.tmp 31), some (29, false)⟩,
        ⟨some 33, .pick (.tmp 29) (.lit (.bool true)) (.tmp 32), some (26, true)⟩,
        ⟨some 34, .pick (.tmp 26) (.tmp 33) (.lit (.bool false)), none⟩])
     (.cond (.tmp 34) (.ops [⟨some 8, .mov (.lit (.int .i64 3)), none⟩]) .skip))
    (.seq (.seq (.ops [⟨some 35, .mov (.tmp 8), none⟩,
         ⟨some 36, .bin .eql .no (.tmp 35) (.lit (.int .i64 0)), none⟩,
         ⟨some 37, .mov (.tmp 36), none⟩,
         ⟨some 38, .mov (.tmp 1), some (37, true)⟩,
         ⟨some 39, .bin .lss .no (.tmp 38) (.lit (.int .i64 1)), some (37, true)⟩,
         ⟨some 40, .mov (.tmp 39), some (37, true)⟩,
         ⟨some 41, .mov (.tmp 1), some (40, false)⟩,
         ⟨some 42, .call (.lit (.fn (.func 29) [] [])) [.tmp 41], some (40, false)⟩,
         ⟨some 43, .un .not (.tmp 42), some (40, false)⟩,
         ⟨some 44, .pick (.tmp 40) (.lit (.bool true)) (.tmp 43), some (37, true)⟩,
         ⟨some 45, .pick (.tmp 37) (.tmp 44) (.lit (.bool false)), none⟩])
      (.cond (.tmp 45) (.ops [⟨some 8, .mov (.lit (.int .i64 7)), none⟩]) .skip))
     (.seq (.seq (.ops [⟨some 46, .mov (.tmp 8), none⟩,
          ⟨some 47, .bin .neq .no (.tmp 46) (.lit (.int .i64 0)), none⟩])
       (.cond (.tmp 47) (.seq (.ops [⟨some 48, .mov (.tmp 7), none⟩,
            ⟨some 49, .mov (.tmp 8), none⟩,
            ⟨some 50, .bin .eql .no (.tmp 48) (.tmp 49), none⟩,
            ⟨some 51, .mov (.tmp 50), none⟩,
            ⟨some 52, .mov (.tmp 5), some (51, true)⟩,
            ⟨some 53, .bin .eql .no (.tmp 52) (.lit (.int .i64 0)), some (51, true)⟩,
            ⟨some 54, .pick (.tmp 51) (.tmp 53) (.lit (.bool false)), none⟩,
            ⟨some 55, .mov (.tmp 54), none⟩,
            ⟨some 56, .mov (.tmp 6), some (55, true)⟩,
            ⟨some 57, .bin .eql .no (.tmp 56) (.lit (.int .i64 0)), some (55, true)⟩,
            ⟨some 58, .pick (.tmp 55) (.tmp 57) (.lit (.bool false)), none⟩,
            ⟨some 59, .mov (.tmp 58), none⟩,
            ⟨some 60, .call (.lit (.fn (.func 17) [] [])) [], some (59, true)⟩,
            ⟨some 61, .pick (.tmp 59) (.tmp 60) (.lit (.bool false)), none⟩,
            ⟨some 4, .mov (.tmp 61), none⟩])
         .ret) .skip))
      (.seq (.ops [⟨some 63, .mov (.tmp 0), none⟩,
          ⟨some 64, .mov (.tmp 1), none⟩,
          ⟨some 65, .call (.lit (.fn (.func 30) [] [])) [.tmp 63, .tmp 64], none⟩,
          ⟨some 62, .mov (.tmp 65), none⟩,
          ⟨some 66, .extr 0 (.tmp 62), none⟩,
          ⟨some 67, .extr 1 (.tmp 62), none⟩,
          ⟨some 68, .extr 2 (.tmp 62), none⟩,
          ⟨some 9, .mov (.tmp 66), none⟩,
          ⟨some 10, .mov (.tmp 67), none⟩,
          ⟨some 11, .mov (.tmp 68), none⟩])
       (.seq (.seq (.ops [⟨some 69, .mov (.tmp 11), none⟩,
            ⟨some 70, .un .not (.tmp 69), none⟩])
         (.cond (.tmp 70) (.seq (.ops [⟨some 71, .mov (.tmp 7), none⟩,
              ⟨some 72, .bin .eql .no (.tmp 71) (.lit (.int .i64 10)), none⟩,
              ⟨some 73, .mov (.tmp 72), none⟩,
              ⟨some 74, .mov (.tmp 5), some (73, true)⟩,
              ⟨some 75, .bin .eql .no (.tmp 74) (.lit (.int .i64 0)), some (73, true)⟩,
              ⟨some 76, .pick (.tmp 73) (.tmp 75) (.lit (.bool false)), none⟩,
              ⟨some 77, .mov (.tmp 76), none⟩,
              ⟨some 78, .mov (.tmp 6), some (77, true)⟩,
              ⟨some 79, .bin .eql .no (.tmp 78) (.lit (.int .i64 0)), some (77, true)⟩,
              ⟨some 80, .pick (.tmp 77) (.tmp 79) (.lit (.bool false)), none⟩,
              ⟨some 81, .mov (.tmp 80), none⟩,
              ⟨some 82, .call (.lit (.fn (.func 17) [] [])) [], some (81, true)⟩,
              ⟨some 83, .pick (.tmp 81) (.tmp 82) (.lit (.bool false)), none⟩,
              ⟨some 4, .mov (.tmp 83), none⟩])
           .ret) .skip))
        (.seq (.ops [⟨some 84, .mov (.tmp 7), none⟩,
            ⟨some 85, .bin .eql .no (.tmp 84) (.lit (.int .i64 0)), none⟩,
            ⟨some 86, .mov (.tmp 85), none⟩,
            ⟨some 87, .mov (.tmp 5), some (86, true)⟩,
            ⟨some 88, .mov (.tmp 9), some (86, true)⟩,
            ⟨some 89, .bin .eql .no (.tmp 87) (.tmp 88), some (86, true)⟩,
            ⟨some 90, .pick (.tmp 86) (.tmp 89) (.lit (.bool false)), none⟩,
            ⟨some 91, .mov (.tmp 90), none⟩,
            ⟨some 92, .mov (.tmp 6), some (91, true)⟩,
            ⟨some 93, .mov (.tmp 10), some (91, true)⟩,
            ⟨some 94, .bin .eql .no (.tmp 92) (.tmp 93), some (91, true)⟩,
            ⟨some 95, .pick (.tmp 91) (.tmp 94) (.lit (.bool false)), none⟩,
            ⟨some 96, .mov (.tmp 95), none⟩,
            ⟨some 97, .call (.lit (.fn (.func 17) [] [])) [], some (96, true)⟩,
            ⟨some 98, .pick (.tmp 96) (.tmp 97) (.lit (.bool false)), none⟩,
            ⟨some 4, .mov (.tmp 98), none⟩])
         .ret))))))))⟩
theorem ok7 : FnOK Go.Proofs.Try.prog 7 af7 := ⟨Go.Proofs.Try.f7, Go.Proofs.Try.func7, by kernel_rfl, by kernel_rfl⟩
def af8 : AFn := ⟨129, [.tmp 6], .seq (.ops [⟨some 6, .mov (.lit (.bool false)), none⟩])
 (.seq (.seq (.ops [⟨some 16, .mov (.tmp 0), none⟩,
      ⟨some 17, .bin .lss .no (.tmp 16) (.lit (.int .i16 (-300))), none⟩,
      ⟨some 18, .mov (.tmp 17), none⟩,
      ⟨some 19, .mov (.tmp 0), some (18, false)⟩,
      ⟨some 20, .bin .gtr .no (.tmp 19) (.lit (.int .i16 300)), some (18, false)⟩,
      ⟨some 21, .pick (.tmp 18) (.lit (.bool true)) (.tmp 20), none⟩,
      ⟨some 22, .mov (.tmp 21), none⟩,
      ⟨some 23, .mov (.tmp 0), some (22, false)⟩,
      ⟨some 24, .toInt .i64 (.tmp 23), some (22, false)⟩,
      ⟨some 25, .call (.lit (.fn (.func 15) [] [])) [.tmp 24], some (22, false)⟩,
      ⟨some 26, .un .not (.tmp 25), some (22, false)⟩,
      ⟨some 27, .pick (.tmp 22) (.lit (.bool true)) (.tmp 26), none⟩,
      ⟨some 28, .mov (.tmp 27), none⟩,
      ⟨some 29, .mov (.tmp 1), some (28, false)⟩,
      ⟨some 30, .bin .lss .no (.tmp 29) (.lit (.int .i16 (-300))), some (28, false)⟩,
      ⟨some 31, .pick (.tmp 28) (.lit (.bool true)) (.tmp 30), none⟩,
      ⟨some 32, .mov (.tmp 31), none⟩,
      ⟨some 33, .mov (.tmp 1), some (32, false)⟩,
      ⟨some 34, .bin .gtr .no (.tmp 33) (.lit (.int .i16 300)), some (32, false)⟩,
      ⟨some 35, .pick (.tmp 32) (.lit (.bool true)) (.tmp 34), none⟩,
      ⟨some 36, .mov (.tmp 35), none⟩,
      ⟨some 37, .mov (.tmp 2), some (36, false)⟩,
      ⟨some 38, .bin .lss .no (.tmp 37) (.lit (.int .i16 (-300))), some (36, false)⟩,
      ⟨some 39, .pick (.tmp 36) (.lit (.bool true)) (.tmp 38), none⟩,
      ⟨some 40, .mov (.tmp 39), none⟩,
      ⟨some 41, .mov (.tmp 2), some (40, false)⟩,
      ⟨some 42, .bin .gtr .no (.tmp 41) (.lit (.int .i16 300)), some (40, false)⟩,
      ⟨some 43, .pick (.tmp 40) (.lit (.bool true)) (.tmp 42), none⟩])
   (.cond (.tmp 43) (.seq (.ops [⟨some 44, .call (.lit (.fn (.func 17) [] [])) [], none⟩,
        ⟨some 6, .mov (.tmp 44), none⟩])
     .ret) .skip))
  (.seq (.ops [⟨some 45, .mov (.tmp 0), none⟩,
      ⟨some 46, .toInt .i64 (.tmp 45), none⟩,
      ⟨some 47, .mov (.tmp 0), none⟩,
      ⟨some 48, .toInt .i64 (.tmp 47), none⟩,
      ⟨some 49, .un .neg (.tmp 48), none⟩,
      ⟨some 50, .mx [.tmp 46, .tmp 49], none⟩,
      ⟨some 7, .mov (.tmp 50), none⟩])
   (.seq (.ops [⟨some 52, .mov (.tmp 0), none⟩,
       ⟨some 53, .toInt .i64 (.tmp 52), none⟩,
       ⟨some 54, .mov (.tmp 1), none⟩,
       ⟨some 55, .toInt .i64 (.tmp 54), none⟩,
       ⟨some 56, .call (.lit (.fn (.func 31) [] [])) [.tmp 53, .tmp 55], none⟩,
       ⟨some 51, .mov (.tmp 56), none⟩,
       ⟨some 57, .extr 0 (.tmp 51), none⟩,
       ⟨some 58, .extr 1 (.tmp 51), none⟩,
       ⟨some 8, .mov (.tmp 57), none⟩,
       ⟨some 9, .mov (.tmp 58), none⟩])
    (.seq (.ops [⟨some 60, .mov (.tmp 0), none⟩,
        ⟨some 61, .toInt .i64 (.tmp 60), none⟩,
        ⟨some 62, .mov (.tmp 2), none⟩,
        ⟨some 63, .toInt .i64 (.tmp 62), none⟩,
        ⟨some 64, .call (.lit (.fn (.func 31) [] [])) [.tmp 61, .tmp 63], none⟩,
        ⟨some 59, .mov (.tmp 64), none⟩,
        ⟨some 65, .extr 0 (.tmp 59), none⟩,
        ⟨some 66, .extr 1 (.tmp 59), none⟩,
        ⟨some 10, .mov (.tmp 65), none⟩,
        ⟨some 11, .mov (.tmp 66), none⟩])
     (.seq (.ops [⟨some 68, .mov (.tmp 0), none⟩,
         ⟨some 69, .toInt .i64 (.tmp 68), none⟩,
         ⟨some 70, .mov (.tmp 1), none⟩,
         ⟨some 71, .toInt .i64 (.tmp 70), none⟩,
         ⟨some 72, .mov (.tmp 2), none⟩,
         ⟨some 73, .toInt .i64 (.tmp 72), none⟩,
         ⟨some 74, .bin .mul .no (.tmp 71) (.tmp 73), none⟩,
         ⟨some 75, .call (.lit (.fn (.func 31) [] [])) [.tmp 69, .tmp 74], none⟩,
         ⟨some 67, .mov (.tmp 75), none⟩,
         ⟨some 76, .extr 0 (.tmp 67), none⟩,
         ⟨some 77, .extr 1 (.tmp 67), none⟩,
         ⟨some 12, .mov (.tmp 76), none⟩,
         ⟨some 13, .mov (.tmp 77), none⟩])
      (.seq (.seq (.ops [⟨some 78, .mov (.tmp 9), none⟩,
           ⟨some 79, .bin .neq .no (.tmp 78) (.lit (.int .i64 0)), none⟩,
           ⟨some 80, .mov (.tmp 79), none⟩,
           ⟨some 81, .mov (.tmp 11), some (80, false)⟩,
           ⟨some 82, .bin .neq .no (.tmp 81) (.lit (.int .i64 0)), some (80, false)⟩,
           ⟨some 83, .pick (.tmp 80) (.lit (.bool true)) (.tmp 82), none⟩,
           ⟨some 84, .mov (.tmp 83), none⟩,
           ⟨some 85, .mov (.tmp 13), some (84, false)⟩,
           ⟨some 86, .bin .neq .no (.tmp 85) (.lit (.int .i64 0)), some (84, false)⟩,
           ⟨some 87, .pick (.tmp 84) (.lit (.bool true)) (.tmp 86), none⟩,
           ⟨some 88, .mov (.tmp 87), none⟩,
           ⟨some 89, .mov (.tmp 8), some (88, false)⟩,
           ⟨some 90, .mov (.tmp 10), some (88, false)⟩,
           ⟨some 91, .bin .mul .no (.tmp 89) (.tmp 90), some (88, false)⟩,
           ⟨some 92, .mov (.tmp 12), some (88, false)⟩,
           ⟨some 93, .bin .neq .no (.tmp 91) (.tmp 92), some (88, false)⟩,
           ⟨some 94, .pick (.tmp 88) (.lit (.bool true)) (.tmp 93), none⟩,
           ⟨some 95, .mov (.tmp 94), none⟩,
           ⟨some 96, .mov (.tmp 8), some (95, false)⟩,
           ⟨some 97, .bin .eql .no (.tmp 96) (.lit (.int .i64 0)), some (95, false)⟩,
           ⟨some 98, .mov (.tmp 1), some (95, false)⟩,
           ⟨some 99, .toInt .i64 (.tmp 98), some (95, false)⟩,
           ⟨some 100, .mov (.tmp 1), some (95, false)⟩,
           ⟨some 101, .toInt .i64 (.tmp 100), some (95, false)⟩,
           ⟨some 102, .un .neg (.tmp 101), some (95, false)⟩,
           ⟨some 103, .mx [.tmp 99, .tmp 102], some (95, false)⟩,
           ⟨some 104, .mov (.tmp 7), some (95, false)⟩,
           ⟨some 105, .call (.lit (.fn (.func 32) [] [])) [.tmp 103, .tmp 104], some (95, false)⟩,
           ⟨some 106, .bin .neq .no (.tmp 105) (.lit (.int .i64 1)), some (95, false)⟩,
           ⟨some 107, .bin .neq .bool (.tmp 97) (.tmp 106), some (95, false)⟩,
           ⟨some 108, .pick (.tmp 95) (.lit (.bool true)) (.tmp 107), none⟩])
        (.cond (.tmp 108) (.seq (.ops [⟨some 6, .mov (.lit (.bool false)), none⟩])
          .ret) .skip))
       (.seq (.seq (.ops [⟨some 109, .mov (.tmp 1), none⟩,
            ⟨some 110, .bin .gtr .no (.tmp 109) (.lit (.int .i16 0)), none⟩])
         (.cond (.tmp 110) (.seq (.ops [⟨some 112, .mov (.tmp 0), none⟩,
              ⟨some 113, .toInt .i64 (.tmp 112), none⟩,
              ⟨some 114, .mov (.tmp 1), none⟩,
              ⟨some 115, .toInt .i64 (.tmp 114), none⟩,
              ⟨some 116, .mov (.tmp 7), none⟩,
              ⟨some 117, .bin .add .no (.tmp 115) (.tmp 116), none⟩,
              ⟨some 118, .call (.lit (.fn (.func 31) [] [])) [.tmp 113, .tmp 117], none⟩,
              ⟨some 111, .mov (.tmp 118), none⟩,
              ⟨some 119, .extr 0 (.tmp 111), none⟩,
              ⟨some 120, .extr 1 (.tmp 111), none⟩,
              ⟨some 14, .mov (.tmp 119), none⟩,
              ⟨some 15, .mov (.tmp 120), none⟩])
           (.seq (.ops [⟨some 121, .mov (.tmp 15), none⟩,
               ⟨some 122, .bin .neq .no (.tmp 121) (.lit (.int .i64 0)), none⟩,
               ⟨some 123, .mov (.tmp 122), none⟩,
               ⟨some 124, .mov (.tmp 14), some (123, false)⟩,
               ⟨some 125, .mov (.tmp 8), some (123, false)⟩,
               ⟨some 126, .bin .neq .no (.tmp 124) (.tmp 125), some (123, false)⟩,
               ⟨some 127, .pick (.tmp 123) (.lit (.bool true)) (.tmp 126), none⟩])
            (.cond (.tmp 127) (.seq (.ops [⟨some 6, .mov (.lit (.bool false)), none⟩])
              .ret) .skip))) .skip))
        (.seq (.ops [⟨some 128, .call (.lit (.fn (.func 17) [] [])) [], none⟩,
            ⟨some 6, .mov (.tmp 128), none⟩])
         .ret))))))))⟩
theorem ok8 : FnOK Go.Proofs.Try.prog 8 af8 := ⟨Go.Proofs.Try.f8, Go.Proofs.Try.func8, by kernel_rfl, by kernel_rfl⟩
def af9 : AFn := ⟨143, [.tmp 4], .seq (.ops [⟨some 2, .box (.tmp 0), none⟩,
    ⟨some 4, .mov (.lit (.bool false)), none⟩])
 (.seq (.seq (.ops [⟨some 14, .faddr 0 (.tmp 2), none⟩,
      ⟨some 15, .load none (.tmp 14), none⟩,
      ⟨some 16, .faddr 1 (.tmp 2), none⟩,
      ⟨some 17, .load none (.tmp 16), none⟩,
      ⟨some 18, .faddr 2 (.tmp 2), none⟩,
      ⟨some 19, .load none (.tmp 18), none⟩,
      ⟨some 20, .mx [.tmp 15, .tmp 17, .tmp 19], none⟩,
      ⟨some 21, .bin .gtr .no (.tmp 20) (.lit (.int .i64 1000)), none⟩,
      ⟨some 22, .mov (.tmp 21), none⟩,
      ⟨some 23, .faddr 0 (.tmp 2), some (22, false)⟩,
      ⟨some 24, .load none (.tmp 23), some (22, false)⟩,
      ⟨some 25, .faddr 1 (.tmp 2), some (22, false)⟩,
      ⟨some 26, .load none (.tmp 25), some (22, false)⟩,
      ⟨some 27, .faddr 2 (.tmp 2), some (22, false)⟩,
      ⟨some 28, .load none (.tmp 27), some (22, false)⟩,
      ⟨some 29, .mn [.tmp 24, .tmp 26, .tmp 28], some (22, false)⟩,
      ⟨some 30, .bin .lss .no (.tmp 29) (.lit (.int .i64 (-1000))), some (22, false)⟩,
      ⟨some 31, .pick (.tmp 22) (.lit (.bool true)) (.tmp 30), none⟩,
      ⟨some 32, .mov (.tmp 31), none⟩,
      ⟨some 33, .mov (.tmp 1), some (32, false)⟩,
      ⟨some 34, .bin .gtr .no (.tmp 33) (.lit (.int .i8 20)), some (32, false)⟩,
      ⟨some 35, .pick (.tmp 32) (.lit (.bool true)) (.tmp 34), none⟩,
      ⟨some 36, .mov (.tmp 35), none⟩,
      ⟨some 37, .mov (.tmp 1), some (36, false)⟩,
      ⟨some 38, .bin .lss .no (.tmp 37) (.lit (.int .i8 (-20))), some (36, false)⟩,
      ⟨some 39, .pick (.tmp 36) (.lit (.bool true)) (.tmp 38), none⟩,
      ⟨some 40, .mov (.tmp 39), none⟩,
      ⟨some 41, .load (some 3) (.tmp 2), some (40, false)⟩,
      ⟨some 42, .call (.lit (.fn (.func 26) [] [])) [.tmp 41], some (40, false)⟩,
      ⟨some 43, .un .not (.tmp 42), some (40, false)⟩,
      ⟨some 44, .pick (.tmp 40) (.lit (.bool true)) (.tmp 43), none⟩])
   (.cond (.tmp 44) (.seq (.ops [⟨some 45, .call (.lit (.fn (.func 17) [] [])) [], none⟩,
        ⟨some 4, .mov (.tmp 45), none⟩])
     .ret) .skip))
  (.seq (.ops [⟨some 47, .load (some 3) (.tmp 2), none⟩,
      ⟨some 48, .call (.lit (.fn (.func 25) [] [])) [.tmp 47], none⟩,
      ⟨some 46, .mov (.tmp 48), none⟩,
      ⟨some 49, .extr 0 (.tmp 46), none⟩,
      ⟨some 50, .extr 1 (.tmp 46), none⟩,
      ⟨some 5, .alloc [.int .i64 0, .int .i64 0, .int .i64 0], none⟩,
      ⟨none, .store 3 (.tmp 5) (.tmp 49), none⟩,
      ⟨some 6, .mov (.tmp 50), none⟩])
   (.seq (.ops [⟨some 51, .mov (.tmp 1), none⟩,
       ⟨some 52, .toInt .i64 (.tmp 51), none⟩,
       ⟨some 7, .mov (.tmp 52), none⟩])
    (.seq (.ops [⟨some 53, .faddr 0 (.tmp 2), none⟩,
        ⟨some 54, .load none (.tmp 53), none⟩,
        ⟨some 55, .faddr 1 (.tmp 2), none⟩,
        ⟨some 56, .load none (.tmp 55), none⟩,
        ⟨some 57, .mov (.tmp 7), none⟩,
        ⟨some 58, .bin .mul .no (.lit (.int .i64 2)) (.tmp 57), none⟩,
        ⟨some 59, .faddr 0 (.tmp 2), none⟩,
        ⟨some 60, .load none (.tmp 59), none⟩,
        ⟨some 61, .bin .mul .no (.tmp 58) (.tmp 60), none⟩,
        ⟨some 62, .bin .add .no (.tmp 56) (.tmp 61), none⟩,
        ⟨some 63, .faddr 0 (.tmp 2), none⟩,
        ⟨some 64, .load none (.tmp 63), none⟩,
        ⟨some 65, .mov (.tmp 7), none⟩,
        ⟨some 66, .bin .mul .no (.tmp 64) (.tmp 65), none⟩,
        ⟨some 67, .mov (.tmp 7), none⟩,
        ⟨some 68, .bin .mul .no (.tmp 66) (.tmp 67), none⟩,
        ⟨some 69, .faddr 1 (.tmp 2), none⟩,
        ⟨some 70, .load none (.tmp 69), none⟩,
        ⟨some 71, .mov (.tmp 7), none⟩,
        ⟨some 72, .bin .mul .no (.tmp 70) (.tmp 71), none⟩,
        ⟨some 73, .bin .add .no (.tmp 68) (.tmp 72), none⟩,
        ⟨some 74, .faddr 2 (.tmp 2), none⟩,
        ⟨some 75, .load none (.tmp 74), none⟩,
        ⟨some 76, .bin .add .no (.tmp 73) (.tmp 75), none⟩,
        ⟨some 77, .build [.int .i64 0, .int .i64 0, .int .i64 0] [(0, (1, .tmp 54)), (1, (1, .tmp 62)), (2, (1, .tmp 76))], none⟩,
        ⟨some 8, .alloc [.int .i64 0, .int .i64 0, .int .i64 0], none⟩,
        ⟨none, .store 3 (.tmp 8) (.tmp 77), none⟩])
     (.seq (.ops [⟨some 78, .faddr 2 (.tmp 2), none⟩,
         ⟨some 79, .load none (.tmp 78), none⟩,
         ⟨some 80, .faddr 1 (.tmp 2), none⟩,
         ⟨some 81, .load none (.tmp 80), none⟩,
         ⟨some 82, .un .neg (.tmp 81), none⟩,
         ⟨some 83, .faddr 0 (.tmp 2), none⟩,
         ⟨some 84, .load none (.tmp 83), none⟩,
         ⟨some 85, .build [.int .i64 0, .int .i64 0, .int .i64 0] [(0, (1, .tmp 79)), (1, (1, .tmp 82)), (2, (1, .tmp 84))], none⟩,
         ⟨some 9, .alloc [.int .i64 0, .int .i64 0, .int .i64 0], none⟩,
         ⟨none, .store 3 (.tmp 9) (.tmp 85), none⟩])
      (.seq (.seq (.draw [(⟨some 86, .mov (.tmp 6), none⟩, 0),
           (⟨some 87, .bin .neq .no (.tmp 86) (.lit (.int .i64 0)), none⟩, 0),
           (⟨some 88, .mov (.tmp 87), none⟩, 0),
           (⟨some 89, .load (some 3) (.tmp 5), some (88, false)⟩, 0),
           (⟨some 90, .call (.lit (.fn (.func 33) [] [])) [.tmp 89], some (88, false)⟩, 0),
           (⟨some 91, .un .not (.tmp 90), some (88, false)⟩, 0),
           (⟨some 92, .pick (.tmp 88) (.lit (.bool true)) (.tmp 91), none⟩, 0),
           (⟨some 93, .mov (.tmp 92), none⟩, 0),
           (⟨some 94, .load (some 3) (.tmp 5), some (93, false)⟩, 0),
           (⟨some 96, .load (some 3) (.tmp 2), some (93, false)⟩, 1),
           (⟨some 95, .call (.lit (.fn (.func 34) [] [])) [.tmp 94], some (93, false)⟩, 0),
           (⟨some 97, .call (.lit (.fn (.func 34) [] [])) [.tmp 96], some (93, false)⟩, 0),
           (⟨some 98, .bin .neq .no (.tmp 95) (.tmp 97), some (93, false)⟩, 0),
           (⟨some 99, .pick (.tmp 93) (.lit (.bool true)) (.tmp 98), none⟩, 0)])
        (.cond (.tmp 99) (.seq (.ops [⟨some 4, .mov (.lit (.bool false)), none⟩])
          .ret) .skip))
       (.seq (.seq (.ops [⟨some 100, .faddr 0 (.tmp 8), none⟩,
            ⟨some 101, .load none (.tmp 100), none⟩,
            ⟨some 102, .call (.lit (.fn (.func 16) [] [])) [.tmp 101], none⟩,
            ⟨some 103, .bin .eql .no (.tmp 102) (.lit (.int .i64 0)), none⟩,
            ⟨some 104, .mov (.tmp 103), none⟩,
            ⟨some 105, .faddr 1 (.tmp 8), some (104, true)⟩,
            ⟨some 106, .load none (.tmp 105), some (104, true)⟩,
            ⟨some 107, .call (.lit (.fn (.func 16) [] [])) [.tmp 106], some (104, true)⟩,
            ⟨some 108, .bin .eql .no (.tmp 107) (.lit (.int .i64 0)), some (104, true)⟩,
            ⟨some 109, .pick (.tmp 104) (.tmp 108) (.lit (.bool false)), none⟩,
            ⟨some 110, .mov (.tmp 109), none⟩,
            ⟨some 111, .faddr 2 (.tmp 8), some (110, true)⟩,
            ⟨some 112, .load none (.tmp 111), some (110, true)⟩,
            ⟨some 113, .call (.lit (.fn (.func 16) [] [])) [.tmp 112], some (110, true)⟩,
            ⟨some 114, .bin .eql .no (.tmp 113) (.lit (.int .i64 0)), some (110, true)⟩,
            ⟨some 115, .pick (.tmp 110) (.tmp 114) (.lit (.bool false)), none⟩])
         (.cond (.tmp 115) (.seq (.ops [⟨some 117, .load (some 3) (.tmp 8), none⟩,
              ⟨some 118, .call (.lit (.fn (.func 25) [] [])) [.tmp 117], none⟩,
              ⟨some 116, .mov (.tmp 118), none⟩,
              ⟨some 119, .extr 0 (.tmp 116), none⟩,
              ⟨some 120, .extr 1 (.tmp 116), none⟩,
              ⟨some 10, .alloc [.int .i64 0, .int .i64 0, .int .i64 0], none⟩,
              ⟨none, .store 3 (.tmp 10) (.tmp 119), none⟩,
              ⟨some 11, .mov (.tmp 120), none⟩])
           (.seq (.ops [⟨some 121, .mov (.tmp 11), none⟩,
               ⟨some 122, .bin .neq .no (.tmp 121) (.lit (.int .i64 0)), none⟩,
               ⟨some 123, .mov (.tmp 122), none⟩,
               ⟨some 124, .load (some 3) (.tmp 10), some (123, false)⟩,
               ⟨some 125, .load (some 3) (.tmp 5), some (123, false)⟩,
               ⟨some 126, .bin .neq (.flat [1, 1, 1]) (.tmp 124) (.tmp 125), some (123, false)⟩,
               ⟨some 127, .pick (.tmp 123) (.lit (.bool true)) (.tmp 126), none⟩])
            (.cond (.tmp 127) (.seq (.ops [⟨some 4, .mov (.lit (.bool false)), none⟩])
              .ret) .skip))) .skip))
        (.seq (.ops [⟨some 129, .load (some 3) (.tmp 9), none⟩,
            ⟨some 130, .call (.lit (.fn (.func 25) [] [])) [.tmp 129], none⟩,
            ⟨some 128, .mov (.tmp 130), none⟩,
            ⟨some 131, .extr 0 (.tmp 128), none⟩,
            ⟨some 132, .extr 1 (.tmp 128), none⟩,
            ⟨some 12, .alloc [.int .i64 0, .int .i64 0, .int .i64 0], none⟩,
            ⟨none, .store 3 (.tmp 12) (.tmp 131), none⟩,
            ⟨some 13, .mov (.tmp 132), none⟩])
         (.seq (.ops [⟨some 133, .mov (.tmp 13), none⟩,
             ⟨some 134, .bin .eql .no (.tmp 133) (.lit (.int .i64 0)), none⟩,
             ⟨some 135, .mov (.tmp 134), none⟩,
             ⟨some 136, .load (some 3) (.tmp 12), some (135, true)⟩,
             ⟨some 137, .load (some 3) (.tmp 5), some (135, true)⟩,
             ⟨some 138, .bin .eql (.flat [1, 1, 1]) (.tmp 136) (.tmp 137), some (135, true)⟩,
             ⟨some 139, .pick (.tmp 135) (.tmp 138) (.lit (.bool false)), none⟩,
             ⟨some 140, .mov (.tmp 139), none⟩,
             ⟨some 141, .call (.lit (.fn (.func 17) [] [])) [], some (140, true)⟩,
             ⟨some 142, .pick (.tmp 140) (.tmp 141) (.lit (.bool false)), none⟩,
             ⟨some 4, .mov (.tmp 142), none⟩])
          .ret)))))))))⟩
theorem ok9 : FnOK Go.Proofs.Try.prog 9 af9 := ⟨Go.Proofs.Try.f9, Go.Proofs.Try.func9, by kernel_rfl, by kernel_rfl⟩
def af10 : AFn := ⟨115, [.tmp 4], .seq (.ops [⟨some 4, .mov (.lit (.bool false)), none⟩])
 (.seq (.ops [⟨some 11, .mov (.tmp 0), none⟩,
     ⟨some 12, .mov (.tmp 1), none⟩,
     ⟨some 13, .call (.lit (.fn (.func 31) [] [])) [.tmp 11, .tmp 12], none⟩,
     ⟨some 10, .mov (.tmp 13), none⟩,
     ⟨some 14, .extr 0 (.tmp 10), none⟩,
     ⟨some 15, .extr 1 (.tmp 10), none⟩,
     ⟨some 5, .mov (.tmp 14), none⟩,
     ⟨some 6, .mov (.tmp 15), none⟩])
  (.seq (.ops [⟨some 17, .mov (.tmp 0), none⟩,
      ⟨some 18, .mov (.tmp 1), none⟩,
      ⟨some 19, .call (.lit (.fn (.func 35) [] [])) [.tmp 17, .tmp 18], none⟩,
      ⟨some 16, .mov (.tmp 19), none⟩,
      ⟨some 20, .extr 0 (.tmp 16), none⟩,
      ⟨some 21, .extr 1 (.tmp 16), none⟩,
      ⟨some 7, .mov (.tmp 20), none⟩,
      ⟨some 8, .mov (.tmp 21), none⟩])
   (.seq (.ops [⟨some 22, .mov (.tmp 0), none⟩,
       ⟨some 23, .call (.lit (.fn (.func 16) [] [])) [.tmp 22], none⟩,
       ⟨some 24, .mov (.tmp 1), none⟩,
       ⟨some 25, .call (.lit (.fn (.func 16) [] [])) [.tmp 24], none⟩,
       ⟨some 26, .mx [.tmp 23, .tmp 25], none⟩,
       ⟨some 9, .mov (.tmp 26), none⟩])
    (.seq (.seq (.ops [⟨some 27, .mov (.tmp 9), none⟩,
         ⟨some 28, .bin .neq .no (.tmp 27) (.lit (.int .i64 0)), none⟩])
      (.cond (.tmp 28) (.seq (.ops [⟨some 29, .mov (.tmp 6), none⟩,
           ⟨some 30, .mov (.tmp 9), none⟩,
           ⟨some 31, .bin .eql .no (.tmp 29) (.tmp 30), none⟩,
           ⟨some 32, .mov (.tmp 31), none⟩,
           ⟨some 33, .mov (.tmp 5), some (32, true)⟩,
           ⟨some 34, .bin .eql .no (.tmp 33) (.lit (.int .i64 0)), some (32, true)⟩,
           ⟨some 35, .pick (.tmp 32) (.tmp 34) (.lit (.bool false)), none⟩,
           ⟨some 36, .mov (.tmp 35), none⟩,
           ⟨some 37, .mov (.tmp 8), some (36, true)⟩,
           ⟨some 38, .mov (.tmp 9), some (36, true)⟩,
           ⟨some 39, .bin .eql .no (.tmp 37) (.tmp 38), some (36, true)⟩,
           ⟨some 40, .pick (.tmp 36) (.tmp 39) (.lit (.bool false)), none⟩,
           ⟨some 41, .mov (.tmp 40), none⟩,
           ⟨some 42, .mov (.tmp 7), some (41, true)⟩,
           ⟨some 43, .bin .eql .no (.tmp 42) (.lit (.int .i64 0)), some (41, true)⟩,
           ⟨some 44, .pick (.tmp 41) (.tmp 43) (.lit (.bool false)), none⟩,
           ⟨some 45, .mov (.tmp 44), none⟩,
           ⟨some 46, .call (.lit (.fn (.func 17) [] [])) [], some (45, true)⟩,
           ⟨some 47, .pick (.tmp 45) (.tmp 46) (.lit (.bool false)), none⟩,
           ⟨some 4, .mov (.tmp 47), none⟩])
        .ret) .skip))
     (.seq (.seq (.ops [⟨some 48, .mov (.tmp 0), none⟩,
          ⟨some 49, .call (.lit (.fn (.func 36) [] [])) [.tmp 48, .lit (.int .i64 4)], none⟩,
          ⟨some 50, .bin .gtr .no (.tmp 49) (.lit (.int .i64 1)), none⟩])
       (.cond (.tmp 50) (.seq (.ops [⟨some 51, .mov (.tmp 6), none⟩,
            ⟨some 52, .bin .eql .no (.tmp 51) (.lit (.int .i64 3)), none⟩,
            ⟨some 53, .mov (.tmp 52), none⟩,
            ⟨some 54, .mov (.tmp 5), some (53, true)⟩,
            ⟨some 55, .bin .eql .no (.tmp 54) (.lit (.int .i64 0)), some (53, true)⟩,
            ⟨some 56, .pick (.tmp 53) (.tmp 55) (.lit (.bool false)), none⟩,
            ⟨some 57, .mov (.tmp 56), none⟩,
            ⟨some 58, .mov (.tmp 8), some (57, true)⟩,
            ⟨some 59, .bin .eql .no (.tmp 58) (.lit (.int .i64 3)), some (57, true)⟩,
            ⟨some 60, .pick (.tmp 57) (.tmp 59) (.lit (.bool false)), none⟩,
            ⟨some 61, .mov (.tmp 60), none⟩,
            ⟨some 62, .mov (.tmp 7), some (61, true)⟩,
            ⟨some 63, .bin .eql .no (.tmp 62) (.lit (.int .i64 0)), some (61, true)⟩,
            ⟨some 64, .pick (.tmp 61) (.tmp 63) (.lit (.bool false)), none⟩,
            ⟨some 65, .mov (.tmp 64), none⟩,
            ⟨some 66, .call (.lit (.fn (.func 17) [] [])) [], some (65, true)⟩,
            ⟨some 67, .pick (.tmp 65) (.tmp 66) (.lit (.bool false)), none⟩,
            ⟨some 4, .mov (.tmp 67), none⟩])
         .ret) .skip))
      (.seq (.seq (.ops [⟨some 68, .mov (.tmp 6), none⟩,
           ⟨some 69, .bin .neq .no (.tmp 68) (.lit (.int .i64 0)), none⟩,
           ⟨some 70, .mov (.tmp 69), none⟩,
           ⟨some 71, .mov (.tmp 5), some (70, false)⟩,
           ⟨some 72, .mov (.tmp 0), some (70, false)⟩,
           ⟨some 73, .mov (.tmp 1), some (70, false)⟩,
           ⟨some 74, .call (.lit (.fn (.func 37) [] [])) [.tmp 72, .tmp 73], some (70, false)⟩,
           ⟨some 75, .bin .neq .no (.tmp 71) (.tmp 74), some (70, false)⟩,
           ⟨some 76, .pick (.tmp 70) (.lit (.bool true)) (.tmp 75), none⟩])
        (.cond (.tmp 76) (.seq (.ops [⟨some 4, .mov (.lit (.bool false)), none⟩])
          .ret) .skip))
       (.seq (.block 0 (.seq (.ops [⟨some 78, .mov (.tmp 0), none⟩,
             ⟨some 79, .call (.lit (.fn (.func 15) [] [])) [.tmp 78], none⟩,
             ⟨some 80, .un .not (.tmp 79), none⟩,
             ⟨some 77, .mov (.tmp 80), none⟩])
          (.cond (.tmp 77) (.seq (.ops [⟨some 81, .mov (.tmp 8), none⟩,
               ⟨some 82, .bin .eql .no (.tmp 81) (.lit (.int .i64 3)), none⟩,
               ⟨some 83, .mov (.tmp 82), none⟩,
               ⟨some 84, .mov (.tmp 7), some (83, true)⟩,
               ⟨some 85, .bin .eql .no (.tmp 84) (.lit (.int .i64 0)), some (83, true)⟩,
               ⟨some 86, .pick (.tmp 83) (.tmp 85) (.lit (.bool false)), none⟩,
               ⟨some 87, .mov (.tmp 86), none⟩,
               ⟨some 88, .call (.lit (.fn (.func 17) [] [])) [], some (87, true)⟩,
               ⟨some 89, .pick (.tmp 87) (.tmp 88) (.lit (.bool false)), none⟩,
               ⟨some 4, .mov (.tmp 89), none⟩])
            .ret) (.seq (.ops [⟨some 91, .mov (.tmp 1), none⟩,
               ⟨some 92, .call (.lit (.fn (.func 29) [] [])) [.tmp 91], none⟩,
               ⟨some 93, .un .not (.tmp 92), none⟩,
               ⟨some 90, .mov (.tmp 93), none⟩])
            (.cond (.tmp 90) (.seq (.ops [⟨some 94, .mov (.tmp 8), none⟩,
                 ⟨some 95, .bin .eql .no (.tmp 94) (.lit (.int .i64 7)), none⟩,
                 ⟨some 96, .mov (.tmp 95), none⟩,
                 ⟨some 97, .mov (.tmp 7), some (96, true)⟩,
                 ⟨some 98, .bin .eql .no (.tmp 97) (.lit (.int .i64 0)), some (96, true)⟩,
                 ⟨some 99, .pick (.tmp 96) (.tmp 98) (.lit (.bool false)), none⟩,
                 ⟨some 100, .mov (.tmp 99), none⟩,
                 ⟨some 101, .call (.lit (.fn (.func 17) [] [])) [], some (100, true)⟩,
                 ⟨some 102, .pick (.tmp 100) (.tmp 101) (.lit (.bool false)), none⟩,
                 ⟨some 4, .mov (.tmp 102), none⟩])
              .ret) .skip)))))
        (.seq (.ops [⟨some 103, .mov (.tmp 8), none⟩,
            ⟨some 104, .bin .eql .no (.tmp 103) (.lit (.int .i64 0)), none⟩,
            ⟨some 105, .mov (.tmp 104), none⟩,
            ⟨some 106, .mov (.tmp 7), some (105, true)⟩,
            ⟨some 107, .mov (.tmp 0), some (105, true)⟩,
            ⟨some 108, .mov (.tmp 1), some (105, true)⟩,
            ⟨some 109, .call (.lit (.fn (.func 37) [] [])) [.tmp 107, .tmp 108], some (105, true)⟩,
            ⟨some 110, .bin .eql .no (.tmp 106) (.tmp 109), some (105, true)⟩,
            ⟨some 111, .pick (.tmp 105) (.tmp 110) (.lit (.bool false)), none⟩,
            ⟨some 112, .mov (.tmp 111), none⟩,
            ⟨some 113, .call (.lit (.fn (.func 17) [] [])) [], some (112, true)⟩,
            ⟨some 114, .pick (.tmp 112) (.tmp 113) (.lit (.bool false)), none⟩,
            ⟨some 4, .mov (.tmp 114), none⟩])
         .ret))))))))⟩
theorem ok10 : FnOK Go.Proofs.Try.prog 10 af10 := ⟨Go.Proofs.Try.f10, Go.Proofs.Try.func10, by kernel_rfl, by kernel_rfl⟩
def af11 : AFn := ⟨132, [.tmp 4], .seq (.ops [⟨some 4, .mov (.lit (.bool false)), none⟩])
 (.seq (.seq (.ops [⟨some 18, .mov (.tmp 0), none⟩,
      ⟨some 19, .bin .geq .no (.tmp 18) (.lit (.int .i16 0)), none⟩,
      ⟨some 20, .mov (.tmp 19), none⟩,
      ⟨some 21, .mov (.tmp 0), some (20, false)⟩,
      ⟨some 22, .bin .lss .no (.tmp 21) (.lit (.int .i16 (-2000))), some (20, false)⟩,
      ⟨some 23, .pick (.tmp 20) (.lit (.bool true)) (.tmp 22), none⟩,
      ⟨some 24, .mov (.tmp 23), none⟩,
      ⟨some 25, .mov (.tmp 0), some (24, false)⟩,
      ⟨some 26, .toInt .i64 (.tmp 25), some (24, false)⟩,
      ⟨some 27, .call (.lit (.fn (.func 15) [] [])) [.tmp 26], some (24, false)⟩,
      ⟨some 28, .un .not (.tmp 27), some (24, false)⟩,
      ⟨some 29, .pick (.tmp 24) (.lit (.bool true)) (.tmp 28), none⟩,
      ⟨some 30, .mov (.tmp 29), none⟩,
      ⟨some 31, .mov (.tmp 1), some (30, false)⟩,
      ⟨some 32, .bin .geq .no (.tmp 31) (.lit (.int .u16 1000)), some (30, false)⟩,
      ⟨some 33, .pick (.tmp 30) (.lit (.bool true)) (.tmp 32), none⟩,
      ⟨some 34, .mov (.tmp 33), none⟩,
      ⟨some 35, .mov (.tmp 1), some (34, false)⟩,
      ⟨some 36, .bin .lss .no (.tmp 35) (.lit (.int .u16 2)), some (34, false)⟩,
      ⟨some 37, .pick (.tmp 34) (.lit (.bool true)) (.tmp 36), none⟩,
      ⟨some 38, .mov (.tmp 37), none⟩,
      ⟨some 39, .mov (.tmp 1), some (38, false)⟩,
      ⟨some 40, .toInt .i64 (.tmp 39), some (38, false)⟩,
      ⟨some 41, .call (.lit (.fn (.func 29) [] [])) [.tmp 40], some (38, false)⟩,
      ⟨some 42, .un .not (.tmp 41), some (38, false)⟩,
      ⟨some 43, .pick (.tmp 38) (.lit (.bool true)) (.tmp 42), none⟩])
   (.cond (.tmp 43) (.seq (.ops [⟨some 44, .call (.lit (.fn (.func 17) [] [])) [], none⟩,
        ⟨some 4, .mov (.tmp 44), none⟩])
     .ret) .skip))
  (.seq (.ops [⟨some 45, .mov (.tmp 0), none⟩,
      ⟨some 46, .toInt .i64 (.tmp 45), none⟩,
      ⟨some 47, .mov (.tmp 1), none⟩,
      ⟨some 48, .toInt .i64 (.tmp 47), none⟩,
      ⟨some 5, .mov (.tmp 46), none⟩,
      ⟨some 6, .mov (.tmp 48), none⟩])
   (.seq (.ops [⟨some 50, .mov (.tmp 5), none⟩,
       ⟨some 51, .mov (.tmp 6), none⟩,
       ⟨some 52, .call (.lit (.fn (.func 35) [] [])) [.tmp 50, .tmp 51], none⟩,
       ⟨some 49, .mov (.tmp 52), none⟩,
       ⟨some 53, .extr 0 (.tmp 49), none⟩,
       ⟨some 54, .extr 1 (.tmp 49), none⟩,
       ⟨some 7, .mov (.tmp 53), none⟩,
       ⟨some 8, .mov (.tmp 54), none⟩])
    (.seq (.ops [⟨some 56, .mov (.tmp 5), none⟩,
        ⟨some 57, .call (.lit (.fn (.func 22) [] [])) [.tmp 56], none⟩,
        ⟨some 55, .mov (.tmp 57), none⟩,
        ⟨some 58, .extr 0 (.tmp 55), none⟩,
        ⟨some 59, .extr 1 (.tmp 55), none⟩,
        ⟨some 9, .mov (.tmp 58), none⟩,
        ⟨some 10, .mov (.tmp 59), none⟩])
     (.seq (.ops [⟨some 61, .mov (.tmp 5), none⟩,
         ⟨some 62, .mov (.tmp 6), none⟩,
         ⟨some 63, .call (.lit (.fn (.func 28) [] [])) [.tmp 61, .tmp 62], none⟩,
         ⟨some 60, .mov (.tmp 63), none⟩,
         ⟨some 64, .extr 0 (.tmp 60), none⟩,
         ⟨some 65, .extr 1 (.tmp 60), none⟩,
         ⟨some 66, .extr 2 (.tmp 60), none⟩,
         ⟨some 11, .mov (.tmp 64), none⟩,
         ⟨some 12, .mov (.tmp 65), none⟩,
         ⟨some 13, .mov (.tmp 66), none⟩])
      (.seq (.seq (.ops [⟨some 67, .mov (.tmp 8), none⟩,
           ⟨some 68, .bin .neq .no (.tmp 67) (.lit (.int .i64 0)), none⟩,
           ⟨some 69, .mov (.tmp 68), none⟩,
           ⟨some 70, .mov (.tmp 10), some (69, false)⟩,
           ⟨some 71, .bin .neq .no (.tmp 70) (.lit (.int .i64 0)), some (69, false)⟩,
           ⟨some 72, .pick (.tmp 69) (.lit (.bool true)) (.tmp 71), none⟩])
        (.cond (.tmp 72) (.seq (.ops [⟨some 4, .mov (.lit (.bool false)), none⟩])
          .ret) .skip))
       (.seq (.ops [⟨some 14, .mov (.lit (.bool false)), none⟩])
        (.seq (.seq (.ops [⟨some 15, .mov (.lit (.int .i64 0)), none⟩])
          (.block 0 (.loop (.seq (.seq (.ops [⟨some 73, .mov (.tmp 15), none⟩,
                 ⟨some 74, .mov (.tmp 6), none⟩,
                 ⟨some 75, .bin .leq .no (.tmp 73) (.tmp 74), none⟩])
              (.cond (.tmp 75) .skip (.exit 0)))
             (.seq (.block 1 (.seq (.seq (.ops [⟨some 78, .mov (.tmp 15), none⟩,
                    ⟨some 79, .mov (.tmp 15), none⟩,
                    ⟨some 80, .bin .mul .no (.tmp 78) (.tmp 79), none⟩,
                    ⟨some 81, .mov (.tmp 5), none⟩,
                    ⟨some 82, .bin .sub .no (.tmp 80) (.tmp 81), none⟩,
                    ⟨some 83, .mov (.tmp 6), none⟩,
                    ⟨some 84, .bin .mul .no (.lit (.int .i64 4)) (.tmp 83), none⟩,
                    ⟨some 85, .bin .rem .no (.tmp 82) (.tmp 84), none⟩,
                    ⟨some 86, .bin .neq .no (.tmp 85) (.lit (.int .i64 0)), none⟩])
                 (.cond (.tmp 86) (.exit 1) .skip))
                (.seq (.ops [⟨some 14, .mov (.lit (.bool true)), none⟩])
                 (.seq (.ops [⟨some 88, .mov (.tmp 6), none⟩,
                     ⟨some 89, .mov (.tmp 15), none⟩,
                     ⟨some 90, .mov (.tmp 15), none⟩,
                     ⟨some 91, .mov (.tmp 15), none⟩,
                     ⟨some 92, .bin .mul .no (.tmp 90) (.tmp 91), none⟩,
                     ⟨some 93, .mov (.tmp 5), none⟩,
                     ⟨some 94, .bin .sub .no (.tmp 92) (.tmp 93), none⟩,
                     ⟨some 95, .mov (.tmp 6), none⟩,
                     ⟨some 96, .bin .mul .no (.lit (.int .i64 4)) (.tmp 95), none⟩,
                     ⟨some 97, .bin .quo .no (.tmp 94) (.tmp 96), none⟩,
                     ⟨some 98, .build [.int .i64 0, .int .i64 0, .int .i64 0] [(0, (1, .tmp 88)), (1, (1, .tmp 89)), (2, (1, .tmp 97))], none⟩,
                     ⟨some 99, .call (.lit (.fn (.func 25) [] [])) [.tmp 98], none⟩,
                     ⟨some 87, .mov (.tmp 99), none⟩,
                     ⟨some 100, .extr 0 (.tmp 87), none⟩,
                     ⟨some 101, .extr 1 (.tmp 87), none⟩,
                     ⟨some 16, .alloc [.int .i64 0, .int .i64 0, .int .i64 0], none⟩,
                     ⟨none, .store 3 (.tmp 16) (.tmp 100), none⟩,
                     ⟨some 17, .mov (.tmp 101), none⟩])
                  (.seq (.ops [⟨some 102, .mov (.tmp 17), none⟩,
                      ⟨some 103, .bin .neq .no (.tmp 102) (.lit (.int .i64 0)), none⟩,
                      ⟨some 104, .mov (.tmp 103), none⟩,
                      ⟨some 105, .mov (.tmp 9), some (104, false)⟩,
                      ⟨some 106, .load (some 3) (.tmp 16), some (104, false)⟩,
                      ⟨some 107, .call (.lit (.fn (.func 38) [] [])) [.tmp 105, .tmp 106], some (104, false)⟩,
                      ⟨some 108, .un .not (.tmp 107), some (104, false)⟩,
                      ⟨some 109, .pick (.tmp 104) (.lit (.bool true)) (.tmp 108), none⟩,
                      ⟨some 110, .mov (.tmp 109), none⟩,
                      ⟨some 111, .faddr 0 (.tmp 16), some (110, false)⟩,
                      ⟨some 112, .load none (.tmp 111), some (110, false)⟩,
                      ⟨some 113, .bin .eql .no (.tmp 112) (.lit (.int .i64 1)), some (110, false)⟩,
                      ⟨some 114, .mov (.tmp 13), some (110, false)⟩,
                      ⟨some 115, .bin .eql .no (.tmp 114) (.lit (.int .i64 0)), some (110, false)⟩,
                      ⟨some 116, .bin .neq .bool (.tmp 113) (.tmp 115), some (110, false)⟩,
                      ⟨some 117, .pick (.tmp 110) (.lit (.bool true)) (.tmp 116), none⟩])
                   (.cond (.tmp 117) (.seq (.ops [⟨some 4, .mov (.lit (.bool false)), none⟩])
                     .ret) .skip))))))
              (.ops [⟨some 76, .mov (.tmp 15), none⟩,
                 ⟨some 77, .bin .add .no (.tmp 76) (.lit (.int .i64 1)), none⟩,
                 ⟨some 15, .mov (.tmp 77), none⟩]))))))
         (.seq (.ops [⟨some 118, .mov (.tmp 14), none⟩,
             ⟨some 119, .mov (.tmp 7), none⟩,
             ⟨some 120, .bin .neq .no (.tmp 119) (.lit (.int .i64 (-1))), none⟩,
             ⟨some 121, .bin .eql .bool (.tmp 118) (.tmp 120), none⟩,
             ⟨some 122, .mov (.tmp 121), none⟩,
             ⟨some 123, .mov (.tmp 14), some (122, true)⟩,
             ⟨some 124, .mov (.tmp 123), some (122, true)⟩,
             ⟨some 125, .mov (.tmp 13), some (124, false)⟩,
             ⟨some 126, .bin .eql .no (.tmp 125) (.lit (.int .i64 10)), some (124, false)⟩,
             ⟨some 127, .pick (.tmp 124) (.lit (.bool true)) (.tmp 126), some (122, true)⟩,
             ⟨some 128, .pick (.tmp 122) (.tmp 127) (.lit (.bool false)), none⟩,
             ⟨some 129, .mov (.tmp 128), none⟩,
             ⟨some 130, .call (.lit (.fn (.func 17) [] [])) [], some (129, true)⟩,
             ⟨some 131, .pick (.tmp 129) (.tmp 130) (.lit (.bool false)), none⟩,
             ⟨some 4, .mov (.tmp 131), none⟩])
          .ret)))))))))⟩
theorem ok11 : FnOK Go.Proofs.Try.prog 11 af11 := ⟨Go.Proofs.Try.f11, Go.Proofs.Try.func11, by kernel_rfl, by kernel_rfl⟩
def af12 : AFn := ⟨27, [.tmp 2, .tmp 3, .tmp 4], .seq (.ops [⟨some 2, .mov (.lit (.int .i64 0)), none⟩,
    ⟨some 3, .mov (.lit (.int .i64 0)), none⟩,
    ⟨some 4, .mov (.lit (.int .i64 0)), none⟩])
 (.seq (.ops [⟨some 8, .mov (.tmp 0), none⟩,
     ⟨some 9, .bslice 1 1 [.int .i64 0] [(0, .tmp 8)], none⟩,
     ⟨some 10, .call (.lit (.fn (.func 39) [] [])) [.tmp 9], none⟩,
     ⟨some 5, .mov (.tmp 10), none⟩])
  (.seq (.seq (.ops [⟨some 11, .mov (.tmp 5), none⟩,
       ⟨some 12, .bin .eql .no (.tmp 11) (.lit (.int .i64 0)), none⟩,
       ⟨some 13, .mov (.tmp 12), none⟩,
       ⟨some 14, .mov (.tmp 0), some (13, true)⟩,
       ⟨some 15, .bin .eql .no (.tmp 14) (.lit (.int .i64 0)), some (13, true)⟩,
       ⟨some 16, .pick (.tmp 13) (.tmp 15) (.lit (.bool false)), none⟩])
    (.cond (.tmp 16) (.ops [⟨some 5, .mov (.lit (.int .i64 6)), none⟩]) .skip))
   (.seq (.seq (.ops [⟨some 17, .mov (.tmp 5), none⟩,
        ⟨some 18, .bin .neq .no (.tmp 17) (.lit (.int .i64 0)), none⟩])
     (.cond (.tmp 18) (.seq (.ops [⟨some 19, .mov (.tmp 5), none⟩,
          ⟨some 2, .mov (.lit (.int .i64 0)), none⟩,
          ⟨some 3, .mov (.lit (.int .i64 0)), none⟩,
          ⟨some 4, .mov (.tmp 19), none⟩])
       .ret) .skip))
    (.seq (.ops [⟨some 21, .mov (.tmp 0), none⟩,
        ⟨some 22, .call (.lit (.fn (.func 40) [] [])) [.tmp 21], none⟩,
        ⟨some 20, .mov (.tmp 22), none⟩,
        ⟨some 23, .extr 0 (.tmp 20), none⟩,
        ⟨some 24, .extr 1 (.tmp 20), none⟩,
        ⟨some 6, .mov (.tmp 23), none⟩,
        ⟨some 7, .mov (.tmp 24), none⟩])
     (.seq (.ops [⟨some 25, .mov (.tmp 6), none⟩,
         ⟨some 26, .mov (.tmp 7), none⟩,
         ⟨some 2, .mov (.tmp 25), none⟩,
         ⟨some 3, .mov (.tmp 26), none⟩,
         ⟨some 4, .mov (.lit (.int .i64 0)), none⟩])
      .ret)))))⟩
theorem ok12 : FnOK Go.Proofs.Try.prog 12 af12 := ⟨Go.Proofs.Try.f12, Go.Proofs.Try.func12, by kernel_rfl, by kernel_rfl⟩
def af13 : AFn := ⟨28, [.tmp 2, .tmp 3], .seq (.ops [⟨some 2, .mov (.lit (.int .i64 0)), none⟩,
    ⟨some 3, .mov (.lit (.int .i64 0)), none⟩])
 (.seq (.ops [⟨some 8, .mov (.tmp 0), none⟩,
     ⟨some 9, .call (.lit (.fn (.func 12) [] [])) [.tmp 8], none⟩,
     ⟨some 7, .mov (.tmp 9), none⟩,
     ⟨some 10, .extr 0 (.tmp 7), none⟩,
     ⟨some 11, .extr 1 (.tmp 7), none⟩,
     ⟨some 12, .extr 2 (.tmp 7), none⟩,
     ⟨some 4, .mov (.tmp 10), none⟩,
     ⟨some 5, .mov (.tmp 11), none⟩,
     ⟨some 6, .mov (.tmp 12), none⟩])
  (.seq (.seq (.ops [⟨some 13, .mov (.tmp 6), none⟩,
       ⟨some 14, .bin .eql .no (.tmp 13) (.lit (.int .i64 0)), none⟩,
       ⟨some 15, .mov (.tmp 14), none⟩,
       ⟨some 16, .mov (.tmp 4), some (15, true)⟩,
       ⟨some 17, .bin .eql .no (.tmp 16) (.lit (.int .i64 1)), some (15, true)⟩,
       ⟨some 18, .pick (.tmp 15) (.tmp 17) (.lit (.bool false)), none⟩])
    (.cond (.tmp 18) (.ops [⟨some 6, .mov (.lit (.int .i64 26)), none⟩]) .skip))
   (.seq (.seq (.ops [⟨some 19, .mov (.tmp 6), none⟩,
        ⟨some 20, .bin .neq .no (.tmp 19) (.lit (.int .i64 0)), none⟩])
     (.cond (.tmp 20) (.seq (.ops [⟨some 21, .mov (.tmp 6), none⟩,
          ⟨some 2, .mov (.lit (.int .i64 0)), none⟩,
          ⟨some 3, .mov (.tmp 21), none⟩])
       .ret) .skip))
    (.seq (.seq (.ops [⟨some 22, .mov (.tmp 4), none⟩,
         ⟨some 23, .call (.lit (.fn (.func 41) [] [])) [.tmp 22], none⟩,
         ⟨some 24, .bin .eql .no (.tmp 23) (.lit (.int .i64 1)), none⟩])
      (.cond (.tmp 24) (.seq (.ops [⟨some 25, .mov (.tmp 4), none⟩,
           ⟨some 2, .mov (.tmp 25), none⟩,
           ⟨some 3, .mov (.lit (.int .i64 0)), none⟩])
        .ret) .skip))
     (.seq (.ops [⟨some 26, .mov (.tmp 4), none⟩,
         ⟨some 27, .bin .mul .no (.lit (.int .i64 4)) (.tmp 26), none⟩,
         ⟨some 2, .mov (.tmp 27), none⟩,
         ⟨some 3, .mov (.lit (.int .i64 0)), none⟩])
      .ret)))))⟩
theorem ok13 : FnOK Go.Proofs.Try.prog 13 af13 := ⟨Go.Proofs.Try.f13, Go.Proofs.Try.func13, by kernel_rfl, by kernel_rfl⟩
def af14 : AFn := ⟨11, [.tmp 2], .seq (.ops [⟨some 2, .mov (.lit (.bool false)), none⟩])
 (.seq (.ops [⟨some 3, .mov (.tmp 0), none⟩,
     ⟨some 4, .bslice 1 1 [.int .i64 0] [(0, .tmp 3)], none⟩,
     ⟨some 5, .call (.lit (.fn (.func 39) [] [])) [.tmp 4], none⟩,
     ⟨some 6, .bin .eql .no (.tmp 5) (.lit (.int .i64 0)), none⟩,
     ⟨some 7, .mov (.tmp 6), none⟩,
     ⟨some 8, .mov (.tmp 0), some (7, true)⟩,
     ⟨some 9, .call (.lit (.fn (.func 42) [] [])) [.tmp 8], some (7, true)⟩,
     ⟨some 10, .pick (.tmp 7) (.tmp 9) (.lit (.bool false)), none⟩,
     ⟨some 2, .mov (.tmp 10), none⟩])
  .ret)⟩
theorem ok14 : FnOK Go.Proofs.Try.prog 14 af14 := ⟨Go.Proofs.Try.f14, Go.Proofs.Try.func14, by kernel_rfl, by kernel_rfl⟩
def af15 : AFn := ⟨44, [.tmp 2], .seq (.ops [⟨some 2, .mov (.lit (.bool false)), none⟩])
 (.seq (.seq (.ops [⟨some 5, .mov (.tmp 0), none⟩,
      ⟨some 6, .call (.lit (.fn (.func 16) [] [])) [.tmp 5], none⟩,
      ⟨some 7, .bin .neq .no (.tmp 6) (.lit (.int .i64 0)), none⟩,
      ⟨some 8, .mov (.tmp 7), none⟩,
      ⟨some 9, .mov (.tmp 0), some (8, false)⟩,
      ⟨some 10, .bin .eql .no (.tmp 9) (.lit (.int .i64 0)), some (8, false)⟩,
      ⟨some 11, .pick (.tmp 8) (.lit (.bool true)) (.tmp 10), none⟩,
      ⟨some 12, .mov (.tmp 11), none⟩,
      ⟨some 13, .mov (.tmp 0), some (12, false)⟩,
      ⟨some 14, .bin .eql .no (.tmp 13) (.lit (.int .i64 1)), some (12, false)⟩,
      ⟨some 15, .pick (.tmp 12) (.lit (.bool true)) (.tmp 14), none⟩])
   (.cond (.tmp 15) (.seq (.ops [⟨some 2, .mov (.lit (.bool false)), none⟩])
     .ret) .skip))
  (.seq (.ops [⟨some 17, .mov (.tmp 0), none⟩,
      ⟨some 18, .call (.lit (.fn (.func 18) [] [])) [.tmp 17], none⟩,
      ⟨some 16, .mov (.tmp 18), none⟩,
      ⟨some 19, .extr 0 (.tmp 16), none⟩,
      ⟨some 20, .extr 1 (.tmp 16), none⟩,
      ⟨some 3, .mov (.tmp 19), none⟩,
      ⟨some 4, .mov (.tmp 20), none⟩])
   (.seq (.block 0 (.seq (.ops [⟨some 22, .mov (.tmp 0), none⟩,
         ⟨some 23, .call (.lit (.fn (.func 36) [] [])) [.tmp 22, .lit (.int .i64 4)], none⟩,
         ⟨some 24, .bin .eql .no (.tmp 23) (.lit (.int .i64 1)), none⟩,
         ⟨some 21, .mov (.tmp 24), none⟩])
      (.cond (.tmp 21) (.seq (.ops [⟨some 25, .mov (.tmp 4), none⟩,
           ⟨some 26, .bin .eql .no (.tmp 25) (.lit (.int .i64 1)), none⟩,
           ⟨some 2, .mov (.tmp 26), none⟩])
        .ret) (.seq (.ops [⟨some 28, .mov (.tmp 0), none⟩,
           ⟨some 29, .call (.lit (.fn (.func 36) [] [])) [.tmp 28, .lit (.int .i64 4)], none⟩,
           ⟨some 30, .bin .neq .no (.tmp 29) (.lit (.int .i64 0)), none⟩,
           ⟨some 27, .mov (.tmp 30), none⟩])
        (.cond (.tmp 27) (.seq (.ops [⟨some 2, .mov (.lit (.bool false)), none⟩])
          .ret) .skip)))))
    (.seq (.ops [⟨some 32, .mov (.tmp 0), none⟩,
        ⟨some 33, .bin .quo .no (.tmp 32) (.lit (.int .i64 4)), none⟩,
        ⟨some 34, .call (.lit (.fn (.func 18) [] [])) [.tmp 33], none⟩,
        ⟨some 31, .mov (.tmp 34), none⟩,
        ⟨some 35, .extr 0 (.tmp 31), none⟩,
        ⟨some 36, .extr 1 (.tmp 31), none⟩,
        ⟨some 3, .mov (.tmp 35), none⟩,
        ⟨some 4, .mov (.tmp 36), none⟩])
     (.seq (.ops [⟨some 37, .mov (.tmp 4), none⟩,
         ⟨some 38, .bin .eql .no (.tmp 37) (.lit (.int .i64 1)), none⟩,
         ⟨some 39, .mov (.tmp 38), none⟩,
         ⟨some 40, .mov (.tmp 3), some (39, true)⟩,
         ⟨some 41, .call (.lit (.fn (.func 36) [] [])) [.tmp 40, .lit (.int .i64 4)], some (39, true)⟩,
         ⟨some 42, .bin .neq .no (.tmp 41) (.lit (.int .i64 1)), some (39, true)⟩,
         ⟨some 43, .pick (.tmp 39) (.tmp 42) (.lit (.bool false)), none⟩,
         ⟨some 2, .mov (.tmp 43), none⟩])
      .ret)))))⟩
theorem ok15 : FnOK Go.Proofs.Try.prog 15 af15 := ⟨Go.Proofs.Try.f15, Go.Proofs.Try.func15, by kernel_rfl, by kernel_rfl⟩
def af16 : AFn := ⟨9, [.tmp 2], .seq (.ops [⟨some 2, .mov (.lit (.int .i64 0)), none⟩])
 (.seq (.seq (.ops [⟨some 3, .mov (.tmp 0), none⟩,
      ⟨some 4, .bin .gtr .no (.tmp 3) (.lit (.int .i64 100000)), none⟩,
      ⟨some 5, .mov (.tmp 4), none⟩,
      ⟨some 6, .mov (.tmp 0), some (5, false)⟩,
      ⟨some 7, .bin .lss .no (.tmp 6) (.lit (.int .i64 (-100000))), some (5, false)⟩,
      ⟨some 8, .pick (.tmp 5) (.lit (.bool true)) (.tmp 7), none⟩])
   (.cond (.tmp 8) (.seq (.ops [⟨some 2, .mov (.lit (.int .i64 4)), none⟩])
     .ret) .skip))
  (.seq (.ops [⟨some 2, .mov (.lit (.int .i64 0)), none⟩])
   .ret))⟩
theorem ok16 : FnOK Go.Proofs.Try.prog 16 af16 := ⟨Go.Proofs.Try.f16, Go.Proofs.Try.func16, by kernel_rfl, by kernel_rfl⟩
def af17 : AFn := ⟨124, [.tmp 0], .seq (.ops [⟨some 0, .mov (.lit (.bool false)), none⟩])
 (.seq (.ops [⟨some 20, .call (.lit (.fn (.func 12) [] [])) [.lit (.int .i64 (-12))], none⟩,
     ⟨some 19, .mov (.tmp 20), none⟩,
     ⟨some 21, .extr 0 (.tmp 19), none⟩,
     ⟨some 22, .extr 1 (.tmp 19), none⟩,
     ⟨some 23, .extr 2 (.tmp 19), none⟩,
     ⟨some 1, .mov (.tmp 21), none⟩,
     ⟨some 2, .mov (.tmp 22), none⟩,
     ⟨some 3, .mov (.tmp 23), none⟩])
  (.seq (.ops [⟨some 25, .call (.lit (.fn (.func 13) [] [])) [.lit (.int .i64 12)], none⟩,
      ⟨some 24, .mov (.tmp 25), none⟩,
      ⟨some 26, .extr 0 (.tmp 24), none⟩,
      ⟨some 27, .extr 1 (.tmp 24), none⟩,
      ⟨some 4, .mov (.tmp 26), none⟩,
      ⟨some 5, .mov (.tmp 27), none⟩])
   (.seq (.ops [⟨some 29, .call (.lit (.fn (.func 31) [] [])) [.lit (.int .i64 (-3)), .lit (.int .i64 2)], none⟩,
       ⟨some 28, .mov (.tmp 29), none⟩,
       ⟨some 30, .extr 0 (.tmp 28), none⟩,
       ⟨some 31, .extr 1 (.tmp 28), none⟩,
       ⟨some 6, .mov (.tmp 30), none⟩,
       ⟨some 7, .mov (.tmp 31), none⟩])
    (.seq (.ops [⟨some 33, .call (.lit (.fn (.func 20) [] [])) [.lit (.int .i64 12)], none⟩,
        ⟨some 32, .mov (.tmp 33), none⟩,
        ⟨some 34, .extr 0 (.tmp 32), none⟩,
        ⟨some 35, .extr 1 (.tmp 32), none⟩,
        ⟨some 36, .extr 2 (.tmp 32), none⟩,
        ⟨some 8, .alloc [.bool false, .str [], .bool false, .str []], none⟩,
        ⟨none, .store 4 (.tmp 8) (.tmp 34), none⟩,
        ⟨some 9, .mov (.tmp 35), none⟩,
        ⟨some 10, .mov (.tmp 36), none⟩])
     (.seq (.ops [⟨some 38, .call (.lit (.fn (.func 22) [] [])) [.lit (.int .i64 (-20))], none⟩,
         ⟨some 37, .mov (.tmp 38), none⟩,
         ⟨some 39, .extr 0 (.tmp 37), none⟩,
         ⟨some 40, .extr 1 (.tmp 37), none⟩,
         ⟨some 11, .mov (.tmp 39), none⟩,
         ⟨some 12, .mov (.tmp 40), none⟩])
      (.seq (.ops [⟨some 42, .build [.int .i64 0, .int .i64 0, .int .i64 0] [(0, (1, .lit (.int .i64 5))), (1, (1, .lit (.int .i64 4))), (2, (1, .lit (.int .i64 1)))], none⟩,
          ⟨some 43, .call (.lit (.fn (.func 25) [] [])) [.tmp 42], none⟩,
          ⟨some 41, .mov (.tmp 43), none⟩,
          ⟨some 44, .extr 0 (.tmp 41), none⟩,
          ⟨some 45, .extr 1 (.tmp 41), none⟩,
          ⟨some 13, .alloc [.int .i64 0, .int .i64 0, .int .i64 0], none⟩,
          ⟨none, .store 3 (.tmp 13) (.tmp 44), none⟩,
          ⟨some 14, .mov (.tmp 45), none⟩])
       (.seq (.ops [⟨some 47, .call (.lit (.fn (.func 28) [] [])) [.lit (.int .i64 (-4)), .lit (.int .i64 13)], none⟩,
           ⟨some 46, .mov (.tmp 47), none⟩,
           ⟨some 48, .extr 0 (.tmp 46), none⟩,
           ⟨some 49, .extr 1 (.tmp 46), none⟩,
           ⟨some 50, .extr 2 (.tmp 46), none⟩,
           ⟨some 15, .mov (.tmp 48), none⟩,
           ⟨some 16, .mov (.tmp 49), none⟩,
           ⟨some 17, .mov (.tmp 50), none⟩])
        (.seq (.seq (.ops [⟨some 51, .mov (.tmp 3), none⟩,
             ⟨some 52, .bin .neq .no (.tmp 51) (.lit (.int .i64 0)), none⟩,
             ⟨some 53, .mov (.tmp 52), none⟩,
             ⟨some 54, .mov (.tmp 5), some (53, false)⟩,
             ⟨some 55, .bin .neq .no (.tmp 54) (.lit (.int .i64 0)), some (53, false)⟩,
             ⟨some 56, .pick (.tmp 53) (.lit (.bool true)) (.tmp 55), none⟩,
             ⟨some 57, .mov (.tmp 56), none⟩,
             ⟨some 58, .mov (.tmp 7), some (57, false)⟩,
             ⟨some 59, .bin .neq .no (.tmp 58) (.lit (.int .i64 0)), some (57, false)⟩,
             ⟨some 60, .pick (.tmp 57) (.lit (.bool true)) (.tmp 59), none⟩,
             ⟨some 61, .mov (.tmp 60), none⟩,
             ⟨some 62, .mov (.tmp 10), some (61, false)⟩,
             ⟨some 63, .bin .neq .no (.tmp 62) (.lit (.int .i64 0)), some (61, false)⟩,
             ⟨some 64, .pick (.tmp 61) (.lit (.bool true)) (.tmp 63), none⟩,
             ⟨some 65, .mov (.tmp 64), none⟩,
             ⟨some 66, .mov (.tmp 12), some (65, false)⟩,
             ⟨some 67, .bin .neq .no (.tmp 66) (.lit (.int .i64 0)), some (65, false)⟩,
             ⟨some 68, .pick (.tmp 65) (.lit (.bool true)) (.tmp 67), none⟩,
             ⟨some 69, .mov (.tmp 68), none⟩,
             ⟨some 70, .mov (.tmp 14), some (69, false)⟩,
             ⟨some 71, .bin .neq .no (.tmp 70) (.lit (.int .i64 0)), some (69, false)⟩,
             ⟨some 72, .pick (.tmp 69) (.lit (.bool true)) (.tmp 71), none⟩,
             ⟨some 73, .mov (.tmp 72), none⟩,
             ⟨some 74, .mov (.tmp 17), some (73, false)⟩,
             ⟨some 75, .bin .neq .no (.tmp 74) (.lit (.int .i64 0)), some (73, false)⟩,
             ⟨some 76, .pick (.tmp 73) (.lit (.bool true)) (.tmp 75), none⟩])
          (.cond (.tmp 76) (.seq (.ops [⟨some 0, .mov (.lit (.bool false)), none⟩])
            .ret) .skip))
         (.seq (.ops [⟨some 77, .build [.int .i64 0, .int .i64 0, .int .i64 0] [(0, (1, .lit (.int .i64 1))), (1, (1, .lit (.int .i64 0))), (2, (1, .lit (.int .i64 5)))], none⟩,
             ⟨some 78, .build [.int .i64 0, .int .i64 0, .int .i64 0] [(0, (1, .lit (.int .i64 2))), (1, (1, .lit (.int .i64 2))), (2, (1, .lit (.int .i64 3)))], none⟩,
             ⟨some 79, .bslice 2 3 [.int .i64 0, .int .i64 0, .int .i64 0, .int .i64 0, .int .i64 0, .int .i64 0] [(0, .tmp 77), (1, .tmp 78)], none⟩,
             ⟨some 18, .mov (.tmp 79), none⟩])
          (.seq (.draw [(⟨some 80, .mov (.tmp 1), none⟩, 0),
              (⟨some 81, .bin .eql .no (.tmp 80) (.lit (.int .i64 (-3))), none⟩, 0),
              (⟨some 82, .mov (.tmp 81), none⟩, 0),
              (⟨some 83, .mov (.tmp 2), some (82, true)⟩, 0),
              (⟨some 84, .bin .eql .no (.tmp 83) (.lit (.int .i64 2)), some (82, true)⟩, 0),
              (⟨some 85, .pick (.tmp 82) (.tmp 84) (.lit (.bool false)), none⟩, 0),
              (⟨some 86, .mov (.tmp 85), none⟩, 0),
              (⟨some 87, .mov (.tmp 4), some (86, true)⟩, 0),
              (⟨some 88, .bin .eql .no (.tmp 87) (.lit (.int .i64 12)), some (86, true)⟩, 0),
              (⟨some 89, .pick (.tmp 86) (.tmp 88) (.lit (.bool false)), none⟩, 0),
              (⟨some 90, .mov (.tmp 89), none⟩, 0),
              (⟨some 91, .mov (.tmp 6), some (90, true)⟩, 0),
              (⟨some 92, .bin .eql .no (.tmp 91) (.lit (.int .i64 (-1))), some (90, true)⟩, 0),
              (⟨some 93, .pick (.tmp 90) (.tmp 92) (.lit (.bool false)), none⟩, 0),
              (⟨some 94, .mov (.tmp 93), none⟩, 0),
              (⟨some 95, .load (some 4) (.tmp 8), some (94, true)⟩, 1),
              (⟨some 96, .call (.lit (.fn (.func 43) [] [])) [.lit (.int .i64 4), .lit (.int .i64 1)], some (94, true)⟩, 0),
              (⟨some 97, .bin .eql (.flat [0, 2, 0, 2]) (.tmp 95) (.tmp 96), some (94, true)⟩, 0),
              (⟨some 98, .pick (.tmp 94) (.tmp 97) (.lit (.bool false)), none⟩, 0),
              (⟨some 99, .mov (.tmp 98), none⟩, 0),
              (⟨some 100, .mov (.tmp 9), some (99, true)⟩, 0),
              (⟨some 101, .bin .eql .no (.tmp 100) (.lit (.int .i64 1)), some (99, true)⟩, 0),
              (⟨some 102, .pick (.tmp 99) (.tmp 101) (.lit (.bool false)), none⟩, 0),
              (⟨some 103, .mov (.tmp 102), none⟩, 0),
              (⟨some 104, .mov (.tmp 11), some (103, true)⟩, 0),
              (⟨some 105, .mov (.tmp 18), some (103, true)⟩, 0),
              (⟨some 106, .call (.lit (.fn (.func 23) [] [])) [.tmp 104, .tmp 105], some (103, true)⟩, 0),
              (⟨some 107, .pick (.tmp 103) (.tmp 106) (.lit (.bool false)), none⟩, 0),
              (⟨some 108, .mov (.tmp 107), none⟩, 0),
              (⟨some 109, .load (some 3) (.tmp 13), some (108, true)⟩, 0),
              (⟨some 110, .build [.int .i64 0, .int .i64 0, .int .i64 0] [(0, (1, .lit (.int .i64 1))), (1, (1, .lit (.int .i64 0))), (2, (1, .lit (.int .i64 1)))], some (108, true)⟩, 0),
              (⟨some 111, .bin .eql (.flat [1, 1, 1]) (.tmp 109) (.tmp 110), some (108, true)⟩, 0),
              (⟨some 112, .pick (.tmp 108) (.tmp 111) (.lit (.bool false)), none⟩, 0),
              (⟨some 113, .mov (.tmp 112), none⟩, 0),
              (⟨some 114, .mov (.tmp 15), some (113, true)⟩, 0),
              (⟨some 115, .bin .eql .no (.tmp 114) (.lit (.int .i64 4)), some (113, true)⟩, 0),
              (⟨some 116, .pick (.tmp 113) (.tmp 115) (.lit (.bool false)), none⟩, 0),
              (⟨some 117, .mov (.tmp 116), none⟩, 0),
              (⟨some 118, .mov (.tmp 16), some (117, true)⟩, 0),
              (⟨some 119, .bin .eql .no (.tmp 118) (.lit (.int .i64 3)), some (117, true)⟩, 0),
              (⟨some 120, .pick (.tmp 117) (.tmp 119) (.lit (.bool false)), none⟩, 0),
              (⟨some 121, .mov (.tmp 120), none⟩, 0),
              (⟨some 122, .call (.lit (.fn (.func 14) [] [])) [.lit (.int .i64 (-20))], some (121, true)⟩, 0),
              (⟨some 123, .pick (.tmp 121) (.tmp 122) (.lit (.bool false)), none⟩, 0),
              (⟨some 0, .mov (.tmp 123), none⟩, 0)])
           .ret))))))))))⟩
theorem ok17 : FnOK Go.Proofs.Try.prog 17 af17 := ⟨Go.Proofs.Try.f17, Go.Proofs.Try.func17, by kernel_rfl, by kernel_rfl⟩
def af18 : AFn := ⟨32, [.tmp 2, .tmp 3], .seq (.ops [⟨some 2, .mov (.lit (.int .i64 0)), none⟩,
    ⟨some 3, .mov (.lit (.int .i64 0)), none⟩])
 (.seq (.ops [⟨some 7, .mov (.tmp 0), none⟩,
     ⟨some 4, .mov (.tmp 7), none⟩,
     ⟨some 5, .mov (.lit (.int .i64 1)), none⟩])
  (.seq (.seq (.ops [⟨some 6, .mov (.lit (.int .i64 2)), none⟩])
    (.block 0 (.loop (.seq (.seq (.ops [⟨some 8, .mov (.tmp 6), none⟩,
           ⟨some 9, .mov (.tmp 6), none⟩,
           ⟨some 10, .bin .mul .no (.tmp 8) (.tmp 9), none⟩,
           ⟨some 11, .mov (.tmp 4), none⟩,
           ⟨some 12, .call (.lit (.fn (.func 44) [] [])) [.tmp 11], none⟩,
           ⟨some 13, .bin .leq .no (.tmp 10) (.tmp 12), none⟩])
        (.cond (.tmp 13) .skip (.exit 0)))
       (.seq (.block 1 (.block 2 (.loop (.seq (.seq (.ops [⟨some 16, .mov (.tmp 4), none⟩,
                ⟨some 17, .mov (.tmp 6), none⟩,
                ⟨some 18, .mov (.tmp 6), none⟩,
                ⟨some 19, .bin .mul .no (.tmp 17) (.tmp 18), none⟩,
                ⟨some 20, .bin .rem .no (.tmp 16) (.tmp 19), none⟩,
                ⟨some 21, .bin .eql .no (.tmp 20) (.lit (.int .i64 0)), none⟩])
             (.cond (.tmp 21) .skip (.exit 2)))
            (.block 3 (.seq (.ops [⟨some 22, .mov (.tmp 4), none⟩,
                 ⟨some 23, .mov (.tmp 6), none⟩,
                 ⟨some 24, .mov (.tmp 6), none⟩,
                 ⟨some 25, .bin .mul .no (.tmp 23) (.tmp 24), none⟩,
                 ⟨some 26, .bin .quo .no (.tmp 22) (.tmp 25), none⟩,
                 ⟨some 4, .mov (.tmp 26), none⟩])
              (.ops [⟨some 27, .mov (.tmp 5), none⟩,
                 ⟨some 28, .mov (.tmp 6), none⟩,
                 ⟨some 29, .bin .mul .no (.tmp 27) (.tmp 28), none⟩,
                 ⟨some 5, .mov (.tmp 29), none⟩])))))))
        (.ops [⟨some 14, .mov (.tmp 6), none⟩,
           ⟨some 15, .bin .add .no (.tmp 14) (.lit (.int .i64 1)), none⟩,
           ⟨some 6, .mov (.tmp 15), none⟩]))))))
   (.seq (.ops [⟨some 30, .mov (.tmp 4), none⟩,
       ⟨some 31, .mov (.tmp 5), none⟩,
       ⟨some 2, .mov (.tmp 30), none⟩,
       ⟨some 3, .mov (.tmp 31), none⟩])
    .ret)))⟩
theorem ok18 : FnOK Go.Proofs.Try.prog 18 af18 := ⟨Go.Proofs.Try.f18, Go.Proofs.Try.func18, by kernel_rfl, by kernel_rfl⟩
def af19 : AFn := ⟨16, [.tmp 2], .seq (.ops [⟨some 2, .mov (.lit (.int .i64 0)), none⟩])
 (.seq (.ops [⟨some 6, .mov (.tmp 0), none⟩,
     ⟨some 7, .call (.lit (.fn (.func 18) [] [])) [.tmp 6], none⟩,
     ⟨some 5, .mov (.tmp 7), none⟩,
     ⟨some 8, .extr 0 (.tmp 5), none⟩,
     ⟨some 9, .extr 1 (.tmp 5), none⟩,
     ⟨some 3, .mov (.tmp 8), none⟩,
     ⟨some 4, .mov (.tmp 9), none⟩])
  (.seq (.seq (.ops [⟨some 10, .mov (.tmp 3), none⟩,
       ⟨some 11, .call (.lit (.fn (.func 36) [] [])) [.tmp 10, .lit (.int .i64 4)], none⟩,
       ⟨some 12, .bin .eql .no (.tmp 11) (.lit (.int .i64 1)), none⟩])
    (.cond (.tmp 12) (.seq (.ops [⟨some 13, .mov (.tmp 3), none⟩,
         ⟨some 2, .mov (.tmp 13), none⟩])
      .ret) .skip))
   (.seq (.ops [⟨some 14, .mov (.tmp 3), none⟩,
       ⟨some 15, .bin .mul .no (.lit (.int .i64 4)) (.tmp 14), none⟩,
       ⟨some 2, .mov (.tmp 15), none⟩])
    .ret)))⟩
theorem ok19 : FnOK Go.Proofs.Try.prog 19 af19 := ⟨Go.Proofs.Try.f19, Go.Proofs.Try.func19, by kernel_rfl, by kernel_rfl⟩
def af20 : AFn := ⟨80, [.cell 2 (some 4), .cell 3 none, .cell 4 none], .seq (.ops [⟨some 1, .box (.tmp 0), none⟩,
    ⟨some 2, .alloc [.bool false, .str [], .bool false, .str []], none⟩,
    ⟨some 3, .alloc [.int .i64 0], none⟩,
    ⟨some 4, .alloc [.int .i64 0], none⟩])
 (.seq (.ops [⟨some 11, .load none (.tmp 1), none⟩,
     ⟨some 12, .bslice 1 1 [.int .i64 0] [(0, .tmp 11)], none⟩,
     ⟨some 13, .call (.lit (.fn (.func 39) [] [])) [.tmp 12], none⟩,
     ⟨some 5, .mov (.tmp 13), none⟩])
  (.seq (.seq (.ops [⟨some 14, .mov (.tmp 5), none⟩,
       ⟨some 15, .bin .eql .no (.tmp 14) (.lit (.int .i64 0)), none⟩,
       ⟨some 16, .mov (.tmp 15), none⟩,
       ⟨some 17, .load none (.tmp 1), some (16, true)⟩,
       ⟨some 18, .bin .lss .no (.tmp 17) (.lit (.int .i64 1)), some (16, true)⟩,
       ⟨some 19, .mov (.tmp 18), some (16, true)⟩,
       ⟨some 20, .load none (.tmp 1), some (19, false)⟩,
       ⟨some 21, .bin .gtr .no (.tmp 20) (.lit (.int .i64 1000)), some (19, false)⟩,
       ⟨some 22, .pick (.tmp 19) (.lit (.bool true)) (.tmp 21), some (16, true)⟩,
       ⟨some 23, .mov (.tmp 22), some (16, true)⟩,
       ⟨some 24, .load none (.tmp 1), some (23, false)⟩,
       ⟨some 25, .call (.lit (.fn (.func 42) [] [])) [.tmp 24], some (23, false)⟩,
       ⟨some 26, .un .not (.tmp 25), some (23, false)⟩,
       ⟨some 27, .pick (.tmp 23) (.lit (.bool true)) (.tmp 26), some (16, true)⟩,
       ⟨some 28, .pick (.tmp 16) (.tmp 27) (.lit (.bool false)), none⟩])
    (.cond (.tmp 28) (.ops [⟨some 5, .mov (.lit (.int .i64 3)), none⟩]) .skip))
   (.seq (.seq (.ops [⟨some 29, .mov (.tmp 5), none⟩,
        ⟨some 30, .bin .neq .no (.tmp 29) (.lit (.int .i64 0)), none⟩])
     (.cond (.tmp 30) (.seq (.ops [⟨some 31, .build [.bool false, .str [], .bool false, .str []] [], none⟩,
          ⟨some 32, .mov (.tmp 5), none⟩,
          ⟨none, .store 4 (.tmp 2) (.tmp 31), none⟩,
          ⟨none, .store 1 (.tmp 3) (.lit (.int .i64 0)), none⟩,
          ⟨none, .store 1 (.tmp 4) (.tmp 32), none⟩])
       .ret) .skip))
    (.seq (.seq (.ops [⟨some 33, .load none (.tmp 1), none⟩,
         ⟨some 34, .call (.lit (.fn (.func 45) [] [])) [.tmp 33], none⟩])
      (.block 0 (.rangeFunc (.tmp 34) [35] (.ops [⟨some 6, .alloc [.bool false, .str [], .bool false, .str []], none⟩,
           ⟨none, .store 4 (.tmp 6) (.tmp 35), none⟩]) (.block 1 (.seq (.draw [(⟨some 37, .faddr 0 (.tmp 6), none⟩, 0),
             (⟨some 38, .load (some 2) (.tmp 37), none⟩, 1),
             (⟨some 40, .load none (.tmp 1), none⟩, 2),
             (⟨some 41, .bin .rem .no (.tmp 40) (.lit (.int .i64 2)), none⟩, 0),
             (⟨some 43, .faddr 2 (.tmp 6), none⟩, 0),
             (⟨some 44, .load (some 2) (.tmp 43), none⟩, 3),
             (⟨some 7, .alloc [.bool false, .str []], none⟩, 5),
             (⟨some 36, .call (.lit (.fn (.func 48) [] [])) [.lit (.int .i64 2)], none⟩, 0),
             (⟨some 39, .call (.lit (.fn (.func 47) [] [])) [.tmp 36, .tmp 38], none⟩, 0),
             (⟨some 42, .call (.lit (.fn (.func 48) [] [])) [.tmp 41], none⟩, 0),
             (⟨some 45, .call (.lit (.fn (.func 47) [] [])) [.tmp 42, .tmp 44], none⟩, 0),
             (⟨some 46, .call (.lit (.fn (.func 46) [] [])) [.tmp 39, .tmp 45], none⟩, 0),
             (⟨none, .store 2 (.tmp 7) (.tmp 46), none⟩, 0)])
          (.seq (.draw [(⟨some 47, .load (some 2) (.tmp 7), none⟩, 0),
              (⟨some 48, .load (some 2) (.tmp 7), none⟩, 0),
              (⟨some 50, .load none (.tmp 1), none⟩, 1),
              (⟨some 52, .faddr 2 (.tmp 6), none⟩, 0),
              (⟨some 53, .load (some 2) (.tmp 52), none⟩, 2),
              (⟨some 54, .faddr 2 (.tmp 6), none⟩, 0),
              (⟨some 55, .load (some 2) (.tmp 54), none⟩, 2),
              (⟨some 8, .alloc [.bool false, .str []], none⟩, 5),
              (⟨some 49, .call (.lit (.fn (.func 47) [] [])) [.tmp 47, .tmp 48], none⟩, 0),
              (⟨some 51, .call (.lit (.fn (.func 48) [] [])) [.tmp 50], none⟩, 0),
              (⟨some 56, .call (.lit (.fn (.func 47) [] [])) [.tmp 53, .tmp 55], none⟩, 0),
              (⟨some 57, .call (.lit (.fn (.func 47) [] [])) [.tmp 51, .tmp 56], none⟩, 0),
              (⟨some 58, .call (.lit (.fn (.func 46) [] [])) [.tmp 49, .tmp 57], none⟩, 0),
              (⟨none, .store 2 (.tmp 8) (.tmp 58), none⟩, 0)])
           (.seq (.ops [⟨some 60, .load (some 2) (.tmp 8), none⟩,
               ⟨some 61, .call (.lit (.fn (.func 49) [] [])) [.tmp 60], none⟩,
               ⟨some 59, .mov (.tmp 61), none⟩,
               ⟨some 62, .extr 0 (.tmp 59), none⟩,
               ⟨some 63, .extr 1 (.tmp 59), none⟩,
               ⟨some 9, .mov (.tmp 62), none⟩,
               ⟨some 10, .mov (.tmp 63), none⟩])
            (.seq (.ops [⟨some 64, .mov (.tmp 10), none⟩,
                ⟨some 65, .mov (.tmp 64), none⟩,
                ⟨some 66, .mov (.tmp 9), some (65, true)⟩,
                ⟨some 67, .bin .eql .no (.tmp 66) (.lit (.int .i64 4)), some (65, true)⟩,
                ⟨some 68, .mov (.tmp 67), some (65, true)⟩,
                ⟨some 69, .mov (.tmp 9), some (68, false)⟩,
                ⟨some 70, .bin .eql .no (.tmp 69) (.lit (.int .i64 (-4))), some (68, false)⟩,
                ⟨some 71, .pick (.tmp 68) (.lit (.bool true)) (.tmp 70), some (65, true)⟩,
                ⟨some 72, .pick (.tmp 65) (.tmp 71) (.lit (.bool false)), none⟩])
             (.cond (.tmp 72) (.seq (.ops [⟨some 73, .load (some 2) (.tmp 7), none⟩,
                  ⟨some 74, .faddr 2 (.tmp 6), none⟩,
                  ⟨some 75, .load (some 2) (.tmp 74), none⟩,
                  ⟨some 76, .build [.bool false, .str [], .bool false, .str []] [(0, (2, .tmp 73)), (2, (2, .tmp 75))], none⟩,
                  ⟨some 77, .mov (.tmp 9), none⟩,
                  ⟨some 78, .bin .quo .no (.tmp 77) (.lit (.int .i64 4)), none⟩,
                  ⟨none, .store 4 (.tmp 2) (.tmp 76), none⟩,
                  ⟨none, .store 1 (.tmp 3) (.tmp 78), none⟩,
                  ⟨none, .store 1 (.tmp 4) (.lit (.int .i64 0)), none⟩])
               .ret) .skip)))))))))
     (.seq (.ops [⟨some 79, .build [.bool false, .str [], .bool false, .str []] [], none⟩,
         ⟨none, .store 4 (.tmp 2) (.tmp 79), none⟩,
         ⟨none, .store 1 (.tmp 3) (.lit (.int .i64 0)), none⟩,
         ⟨none, .store 1 (.tmp 4) (.lit (.int .i64 10)), none⟩])
      .ret)))))⟩
theorem ok20 : FnOK Go.Proofs.Try.prog 20 af20 := ⟨Go.Proofs.Try.f20, Go.Proofs.Try.func20, by kernel_rfl, by kernel_rfl⟩
def af21 : AFn := ⟨67, [.cell 2 (some 4), .tmp 3], .seq (.ops [⟨some 2, .alloc [.bool false, .str [], .bool false, .str []], none⟩,
    ⟨some 3, .mov (.lit (.int .i64 0)), none⟩])
 (.seq (.ops [⟨some 14, .mov (.tmp 0), none⟩,
     ⟨some 15, .call (.lit (.fn (.func 50) [] [])) [.tmp 14], none⟩,
     ⟨some 4, .mov (.tmp 15), none⟩])
  (.seq (.ops [⟨some 16, .mov (.tmp 0), none⟩,
      ⟨some 17, .bin .rem .no (.tmp 16) (.lit (.int .i64 2)), none⟩,
      ⟨some 5, .mov (.tmp 17), none⟩,
      ⟨some 6, .mov (.lit (.int .i64 2)), none⟩])
   (.seq (.ops [⟨some 18, .call (.lit (.fn (.func 51) [] [])) [.lit (.int .i64 2)], none⟩,
       ⟨some 19, .mov (.tmp 5), none⟩,
       ⟨some 20, .un .neg (.tmp 19), none⟩,
       ⟨some 21, .call (.lit (.fn (.func 51) [] [])) [.tmp 20], none⟩,
       ⟨some 7, .alloc [.bool false, .str []], none⟩,
       ⟨some 8, .alloc [.bool false, .str []], none⟩,
       ⟨none, .store 2 (.tmp 7) (.tmp 18), none⟩,
       ⟨none, .store 2 (.tmp 8) (.tmp 21), none⟩])
    (.seq (.ops [⟨some 22, .call (.lit (.fn (.func 51) [] [])) [.lit (.int .i64 0)], none⟩,
        ⟨some 23, .call (.lit (.fn (.func 51) [] [])) [.lit (.int .i64 1)], none⟩,
        ⟨some 9, .alloc [.bool false, .str []], none⟩,
        ⟨some 10, .alloc [.bool false, .str []], none⟩,
        ⟨none, .store 2 (.tmp 9) (.tmp 22), none⟩,
        ⟨none, .store 2 (.tmp 10) (.tmp 23), none⟩])
     (.seq (.ops [⟨some 11, .mov (.lit (.int .i64 1)), none⟩])
      (.seq (.seq (.ops [⟨some 12, .mov (.lit (.int .i64 0)), none⟩])
        (.block 0 (.loop (.seq (.seq (.ops [⟨some 24, .mov (.tmp 12), none⟩,
               ⟨some 25, .bin .lss .no (.tmp 24) (.lit (.int .i64 100000)), none⟩])
            (.cond (.tmp 25) .skip (.exit 0)))
           (.seq (.block 1 (.seq (.ops [⟨some 28, .mov (.tmp 5), none⟩,
                 ⟨some 29, .mov (.tmp 4), none⟩,
                 ⟨some 30, .bin .add .no (.tmp 28) (.tmp 29), none⟩,
                 ⟨some 31, .mov (.tmp 6), none⟩,
                 ⟨some 32, .bin .quo .no (.tmp 30) (.tmp 31), none⟩,
                 ⟨some 13, .mov (.tmp 32), none⟩])
              (.seq (.draw [(⟨some 33, .mov (.tmp 13), none⟩, 0),
                  (⟨some 35, .load (some 2) (.tmp 7), none⟩, 1),
                  (⟨some 37, .load (some 2) (.tmp 8), none⟩, 2),
                  (⟨some 39, .load (some 2) (.tmp 7), none⟩, 3),
                  (⟨some 34, .call (.lit (.fn (.func 51) [] [])) [.tmp 33], none⟩, 0),
                  (⟨some 36, .call (.lit (.fn (.func 53) [] [])) [.tmp 34, .tmp 35], none⟩, 0),
                  (⟨some 38, .call (.lit (.fn (.func 52) [] [])) [.tmp 36, .tmp 37], none⟩, 0),
                  (⟨none, .store 2 (.tmp 7) (.tmp 38), none⟩, 0),
                  (⟨none, .store 2 (.tmp 8) (.tmp 39), none⟩, 0)])
               (.seq (.draw [(⟨some 40, .mov (.tmp 13), none⟩, 0),
                   (⟨some 42, .load (some 2) (.tmp 9), none⟩, 1),
                   (⟨some 44, .load (some 2) (.tmp 10), none⟩, 2),
                   (⟨some 46, .load (some 2) (.tmp 9), none⟩, 3),
                   (⟨some 41, .call (.lit (.fn (.func 51) [] [])) [.tmp 40], none⟩, 0),
                   (⟨some 43, .call (.lit (.fn (.func 53) [] [])) [.tmp 41, .tmp 42], none⟩, 0),
                   (⟨some 45, .call (.lit (.fn (.func 52) [] [])) [.tmp 43, .tmp 44], none⟩, 0),
                   (⟨none, .store 2 (.tmp 9) (.tmp 45), none⟩, 0),
                   (⟨none, .store 2 (.tmp 10) (.tmp 46), none⟩, 0)])
                (.seq (.ops [⟨some 47, .mov (.tmp 13), none⟩,
                    ⟨some 48, .mov (.tmp 6), none⟩,
                    ⟨some 49, .bin .mul .no (.tmp 47) (.tmp 48), none⟩,
                    ⟨some 50, .mov (.tmp 5), none⟩,
                    ⟨some 51, .bin .sub .no (.tmp 49) (.tmp 50), none⟩,
                    ⟨some 5, .mov (.tmp 51), none⟩])
                 (.seq (.ops [⟨some 52, .mov (.tmp 0), none⟩,
                     ⟨some 53, .mov (.tmp 5), none⟩,
                     ⟨some 54, .mov (.tmp 5), none⟩,
                     ⟨some 55, .bin .mul .no (.tmp 53) (.tmp 54), none⟩,
                     ⟨some 56, .bin .sub .no (.tmp 52) (.tmp 55), none⟩,
                     ⟨some 57, .mov (.tmp 6), none⟩,
                     ⟨some 58, .bin .quo .no (.tmp 56) (.tmp 57), none⟩,
                     ⟨some 6, .mov (.tmp 58), none⟩])
                  (.seq (.ops [⟨some 59, .mov (.tmp 11), none⟩,
                      ⟨some 60, .un .neg (.tmp 59), none⟩,
                      ⟨some 11, .mov (.tmp 60), none⟩])
                   (.seq (.ops [⟨some 61, .mov (.tmp 6), none⟩,
                       ⟨some 62, .bin .eql .no (.tmp 61) (.lit (.int .i64 2)), none⟩])
                    (.cond (.tmp 62) (.exit 0) .skip)))))))))
            (.ops [⟨some 26, .mov (.tmp 12), none⟩,
               ⟨some 27, .bin .add .no (.tmp 26) (.lit (.int .i64 1)), none⟩,
               ⟨some 12, .mov (.tmp 27), none⟩]))))))
       (.seq (.ops [⟨some 63, .load (some 2) (.tmp 7), none⟩,
           ⟨some 64, .load (some 2) (.tmp 9), none⟩,
           ⟨some 65, .build [.bool false, .str [], .bool false, .str []] [(0, (2, .tmp 63)), (2, (2, .tmp 64))], none⟩,
           ⟨some 66, .mov (.tmp 11), none⟩,
           ⟨none, .store 4 (.tmp 2) (.tmp 65), none⟩,
           ⟨some 3, .mov (.tmp 66), none⟩])
        .ret)))))))⟩
theorem ok21 : FnOK Go.Proofs.Try.prog 21 af21 := ⟨Go.Proofs.Try.f21, Go.Proofs.Try.func21, by kernel_rfl, by kernel_rfl⟩
def af22 : AFn := ⟨86, [.tmp 2, .tmp 3], .seq (.ops [⟨some 2, .mov (.lit .nils), none⟩,
    ⟨some 3, .mov (.lit (.int .i64 0)), none⟩])
 (.seq (.ops [⟨some 9, .mov (.tmp 0), none⟩,
     ⟨some 10, .bslice 1 1 [.int .i64 0] [(0, .tmp 9)], none⟩,
     ⟨some 11, .call (.lit (.fn (.func 39) [] [])) [.tmp 10], none⟩,
     ⟨some 4, .mov (.tmp 11), none⟩])
  (.seq (.seq (.ops [⟨some 12, .mov (.tmp 4), none⟩,
       ⟨some 13, .bin .eql .no (.tmp 12) (.lit (.int .i64 0)), none⟩,
       ⟨some 14, .mov (.tmp 13), none⟩,
       ⟨some 15, .mov (.tmp 0), some (14, true)⟩,
       ⟨some 16, .bin .geq .no (.tmp 15) (.lit (.int .i64 0)), some (14, true)⟩,
       ⟨some 17, .mov (.tmp 16), some (14, true)⟩,
       ⟨some 18, .mov (.tmp 0), some (17, false)⟩,
       ⟨some 19, .bin .lss .no (.tmp 18) (.lit (.int .i64 (-10000))), some (17, false)⟩,
       ⟨some 20, .pick (.tmp 17) (.lit (.bool true)) (.tmp 19), some (14, true)⟩,
       ⟨some 21, .mov (.tmp 20), some (14, true)⟩,
       ⟨some 22, .mov (.tmp 0), some (21, false)⟩,
       ⟨some 23, .call (.lit (.fn (.func 42) [] [])) [.tmp 22], some (21, false)⟩,
       ⟨some 24, .un .not (.tmp 23), some (21, false)⟩,
       ⟨some 25, .pick (.tmp 21) (.lit (.bool true)) (.tmp 24), some (14, true)⟩,
       ⟨some 26, .pick (.tmp 14) (.tmp 25) (.lit (.bool false)), none⟩])
    (.cond (.tmp 26) (.ops [⟨some 4, .mov (.lit (.int .i64 3)), none⟩]) .skip))
   (.seq (.seq (.ops [⟨some 27, .mov (.tmp 4), none⟩,
        ⟨some 28, .bin .neq .no (.tmp 27) (.lit (.int .i64 0)), none⟩])
     (.cond (.tmp 28) (.seq (.ops [⟨some 29, .mov (.tmp 4), none⟩,
          ⟨some 2, .mov (.lit .nils), none⟩,
          ⟨some 3, .mov (.tmp 29), none⟩])
       .ret) .skip))
    (.seq (.ops [⟨some 5, .mov (.lit .nils), none⟩])
     (.seq (.seq (.ops [⟨some 6, .mov (.lit (.int .i64 1)), none⟩])
       (.block 0 (.loop (.seq (.seq (.ops [⟨some 30, .mov (.tmp 6), none⟩,
              ⟨some 31, .bin .mul .no (.lit (.int .i64 3)) (.tmp 30), none⟩,
              ⟨some 32, .mov (.tmp 6), none⟩,
              ⟨some 33, .bin .mul .no (.tmp 31) (.tmp 32), none⟩,
              ⟨some 34, .mov (.tmp 0), none⟩,
              ⟨some 35, .un .neg (.tmp 34), none⟩,
              ⟨some 36, .bin .leq .no (.tmp 33) (.tmp 35), none⟩])
           (.cond (.tmp 36) .skip (.exit 0)))
          (.seq (.block 1 (.seq (.ops [⟨some 39, .mov (.tmp 6), none⟩,
                ⟨some 40, .un .neg (.tmp 39), none⟩,
                ⟨some 7, .mov (.tmp 40), none⟩])
             (.block 2 (.loop (.seq (.seq (.ops [⟨some 41, .mov (.tmp 7), none⟩,
                    ⟨some 42, .mov (.tmp 6), none⟩,
                    ⟨some 43, .bin .leq .no (.tmp 41) (.tmp 42), none⟩])
                 (.cond (.tmp 43) .skip (.exit 2)))
                (.seq (.block 3 (.seq (.seq (.ops [⟨some 46, .mov (.tmp 7), none⟩,
                       ⟨some 47, .mov (.tmp 7), none⟩,
                       ⟨some 48, .bin .mul .no (.tmp 46) (.tmp 47), none⟩,
                       ⟨some 49, .mov (.tmp 0), none⟩,
                       ⟨some 50, .bin .sub .no (.tmp 48) (.tmp 49), none⟩,
                       ⟨some 51, .mov (.tmp 6), none⟩,
                       ⟨some 52, .bin .mul .no (.lit (.int .i64 4)) (.tmp 51), none⟩,
                       ⟨some 53, .bin .rem .no (.tmp 50) (.tmp 52), none⟩,
                       ⟨some 54, .bin .neq .no (.tmp 53) (.lit (.int .i64 0)), none⟩])
                    (.cond (.tmp 54) (.exit 3) .skip))
                   (.seq (.ops [⟨some 55, .mov (.tmp 6), none⟩,
                       ⟨some 56, .mov (.tmp 7), none⟩,
                       ⟨some 57, .mov (.tmp 7), none⟩,
                       ⟨some 58, .mov (.tmp 7), none⟩,
                       ⟨some 59, .bin .mul .no (.tmp 57) (.tmp 58), none⟩,
                       ⟨some 60, .mov (.tmp 0), none⟩,
                       ⟨some 61, .bin .sub .no (.tmp 59) (.tmp 60), none⟩,
                       ⟨some 62, .mov (.tmp 6), none⟩,
                       ⟨some 63, .bin .mul .no (.lit (.int .i64 4)) (.tmp 62), none⟩,
                       ⟨some 64, .bin .quo .no (.tmp 61) (.tmp 63), none⟩,
                       ⟨some 65, .build [.int .i64 0, .int .i64 0, .int .i64 0] [(0, (1, .tmp 55)), (1, (1, .tmp 56)), (2, (1, .tmp 64))], none⟩,
                       ⟨some 8, .alloc [.int .i64 0, .int .i64 0, .int .i64 0], none⟩,
                       ⟨none, .store 3 (.tmp 8) (.tmp 65), none⟩])
                    (.seq (.draw [(⟨some 66, .load (some 3) (.tmp 8), none⟩, 0),
                        (⟨some 67, .call (.lit (.fn (.func 54) [] [])) [.tmp 66], none⟩, 0),
                        (⟨some 68, .mov (.tmp 67), none⟩, 0),
                        (⟨some 69, .faddr 0 (.tmp 8), some (68, true)⟩, 0),
                        (⟨some 70, .load none (.tmp 69), some (68, true)⟩, 0),
                        (⟨some 71, .faddr 1 (.tmp 8), some (68, true)⟩, 0),
                        (⟨some 72, .load none (.tmp 71), some (68, true)⟩, 0),
                        (⟨some 74, .faddr 2 (.tmp 8), some (68, true)⟩, 0),
                        (⟨some 75, .load none (.tmp 74), some (68, true)⟩, 1),
                        (⟨some 73, .call (.lit (.fn (.func 55) [] [])) [.tmp 70, .tmp 72], some (68, true)⟩, 0),
                        (⟨some 76, .call (.lit (.fn (.func 55) [] [])) [.tmp 73, .tmp 75], some (68, true)⟩, 0),
                        (⟨some 77, .bin .eql .no (.tmp 76) (.lit (.int .i64 1)), some (68, true)⟩, 0),
                        (⟨some 78, .pick (.tmp 68) (.tmp 77) (.lit (.bool false)), none⟩, 0)])
                     (.cond (.tmp 78) (.ops [⟨some 79, .mov (.tmp 5), none⟩,
                         ⟨some 80, .load (some 3) (.tmp 8), none⟩,
                         ⟨some 81, .bslice 1 3 [.int .i64 0, .int .i64 0, .int .i64 0] [(0, .tmp 80)], none⟩,
                         ⟨some 82, .append 3 24 [.int .i64 0, .int .i64 0, .int .i64 0] (.tmp 79) (.tmp 81), none⟩,
                         ⟨some 5, .mov (.tmp 82), none⟩]) .skip)))))
                 (.ops [⟨some 44, .mov (.tmp 7), none⟩,
                    ⟨some 45, .bin .add .no (.tmp 44) (.lit (.int .i64 1)), none⟩,
                    ⟨some 7, .mov (.tmp 45), none⟩])))))))
           (.ops [⟨some 37, .mov (.tmp 6), none⟩,
              ⟨some 38, .bin .add .no (.tmp 37) (.lit (.int .i64 1)), none⟩,
              ⟨some 6, .mov (.tmp 38), none⟩]))))))
      (.seq (.ops [⟨some 83, .mov (.tmp 5), none⟩,
          ⟨some 84, .call (.lit (.fn (.func 56) [] [])) [.tmp 83, .lit (.fn (.func 57) [] [])], none⟩])
       (.seq (.ops [⟨some 85, .mov (.tmp 5), none⟩,
           ⟨some 2, .mov (.tmp 85), none⟩,
           ⟨some 3, .mov (.lit (.int .i64 0)), none⟩])
        .ret)))))))⟩
theorem ok22 : FnOK Go.Proofs.Try.prog 22 af22 := ⟨Go.Proofs.Try.f22, Go.Proofs.Try.func22, by kernel_rfl, by kernel_rfl⟩
def af23 : AFn := ⟨26, [.tmp 4], .seq (.ops [⟨some 4, .mov (.lit (.bool false)), none⟩])
 (.seq (.seq (.ops [⟨some 6, .mov (.tmp 0), none⟩,
      ⟨some 7, .len 1 (.tmp 6), none⟩,
      ⟨some 8, .mov (.tmp 1), none⟩,
      ⟨some 9, .len 1 (.tmp 8), none⟩,
      ⟨some 10, .bin .neq .no (.tmp 7) (.tmp 9), none⟩])
   (.cond (.tmp 10) (.seq (.ops [⟨some 4, .mov (.lit (.bool false)), none⟩])
     .ret) .skip))
  (.seq (.seq (.ops [⟨some 11, .mov (.tmp 0), none⟩,
       ⟨some 12, .len 1 (.tmp 11), none⟩,
       ⟨some 13, .mov (.lit (.int .i64 0)), none⟩])
    (.block 0 (.loop (.seq (.ops [⟨some 14, .bin .lss .no (.tmp 13) (.tmp 12), none⟩])
       (.seq (.cond (.tmp 14) .skip (.exit 0))
        (.seq (.block 1 (.seq (.ops [⟨some 15, .mov (.tmp 13), none⟩,
              ⟨some 5, .mov (.tmp 15), none⟩])
           (.seq (.draw [(⟨some 16, .mov (.tmp 0), none⟩, 0),
               (⟨some 17, .mov (.tmp 5), none⟩, 0),
               (⟨some 18, .iaddr none 3 (.tmp 16) (.tmp 17), none⟩, 0),
               (⟨some 19, .load (some 3) (.tmp 18), none⟩, 0),
               (⟨some 20, .mov (.tmp 1), none⟩, 0),
               (⟨some 21, .mov (.tmp 5), none⟩, 0),
               (⟨some 22, .iaddr none 3 (.tmp 20) (.tmp 21), none⟩, 0),
               (⟨some 23, .load (some 3) (.tmp 22), none⟩, 0),
               (⟨some 24, .bin .neq (.flat [1, 1, 1]) (.tmp 19) (.tmp 23), none⟩, 0)])
            (.cond (.tmp 24) (.seq (.ops [⟨some 4, .mov (.lit (.bool false)), none⟩])
              .ret) .skip))))
         (.ops [⟨some 25, .bin .add .no (.tmp 13) (.lit (.int .i64 1)), none⟩,
            ⟨some 13, .mov (.tmp 25), none⟩])))))))
   (.seq (.ops [⟨some 4, .mov (.lit (.bool true)), none⟩])
    .ret)))⟩
theorem ok23 : FnOK Go.Proofs.Try.prog 23 af23 := ⟨Go.Proofs.Try.f23, Go.Proofs.Try.func23, by kernel_rfl, by kernel_rfl⟩
def af24 : AFn := ⟨60, [.tmp 2], .seq (.ops [⟨some 2, .mov (.lit .nils), none⟩])
 (.seq (.ops [⟨some 3, .mov (.lit .nils), none⟩])
  (.seq (.seq (.ops [⟨some 4, .mov (.lit (.int .i64 1)), none⟩])
    (.block 0 (.loop (.seq (.seq (.ops [⟨some 7, .mov (.tmp 4), none⟩,
           ⟨some 8, .bin .mul .no (.lit (.int .i64 3)) (.tmp 7), none⟩,
           ⟨some 9, .mov (.tmp 4), none⟩,
           ⟨some 10, .bin .mul .no (.tmp 8) (.tmp 9), none⟩,
           ⟨some 11, .mov (.tmp 0), none⟩,
           ⟨some 12, .un .neg (.tmp 11), none⟩,
           ⟨some 13, .bin .leq .no (.tmp 10) (.tmp 12), none⟩])
        (.cond (.tmp 13) .skip (.exit 0)))
       (.seq (.block 1 (.seq (.ops [⟨some 16, .mov (.tmp 4), none⟩,
             ⟨some 17, .un .neg (.tmp 16), none⟩,
             ⟨some 5, .mov (.tmp 17), none⟩])
          (.block 2 (.loop (.seq (.seq (.ops [⟨some 18, .mov (.tmp 5), none⟩,
                 ⟨some 19, .mov (.tmp 4), none⟩,
                 ⟨some 20, .bin .leq .no (.tmp 18) (.tmp 19), none⟩])
              (.cond (.tmp 20) .skip (.exit 2)))
             (.seq (.block 3 (.seq (.seq (.ops [⟨some 23, .mov (.tmp 5), none⟩,
                    ⟨some 24, .mov (.tmp 5), none⟩,
                    ⟨some 25, .bin .mul .no (.tmp 23) (.tmp 24), none⟩,
                    ⟨some 26, .mov (.tmp 0), none⟩,
                    ⟨some 27, .bin .sub .no (.tmp 25) (.tmp 26), none⟩,
                    ⟨some 28, .mov (.tmp 4), none⟩,
                    ⟨some 29, .bin .mul .no (.lit (.int .i64 4)) (.tmp 28), none⟩,
                    ⟨some 30, .bin .rem .no (.tmp 27) (.tmp 29), none⟩,
                    ⟨some 31, .bin .neq .no (.tmp 30) (.lit (.int .i64 0)), none⟩])
                 (.cond (.tmp 31) (.exit 3) .skip))
                (.seq (.ops [⟨some 32, .mov (.tmp 4), none⟩,
                    ⟨some 33, .mov (.tmp 5), none⟩,
                    ⟨some 34, .mov (.tmp 5), none⟩,
                    ⟨some 35, .mov (.tmp 5), none⟩,
                    ⟨some 36, .bin .mul .no (.tmp 34) (.tmp 35), none⟩,
                    ⟨some 37, .mov (.tmp 0), none⟩,
                    ⟨some 38, .bin .sub .no (.tmp 36) (.tmp 37), none⟩,
                    ⟨some 39, .mov (.tmp 4), none⟩,
                    ⟨some 40, .bin .mul .no (.lit (.int .i64 4)) (.tmp 39), none⟩,
                    ⟨some 41, .bin .quo .no (.tmp 38) (.tmp 40), none⟩,
                    ⟨some 42, .build [.int .i64 0, .int .i64 0, .int .i64 0] [(0, (1, .tmp 32)), (1, (1, .tmp 33)), (2, (1, .tmp 41))], none⟩,
                    ⟨some 6, .alloc [.int .i64 0, .int .i64 0, .int .i64 0], none⟩,
                    ⟨none, .store 3 (.tmp 6) (.tmp 42), none⟩])
                 (.seq (.ops [⟨some 43, .load (some 3) (.tmp 6), none⟩,
                     ⟨some 44, .call (.lit (.fn (.func 33) [] [])) [.tmp 43], none⟩,
                     ⟨some 45, .mov (.tmp 44), none⟩,
                     ⟨some 46, .faddr 0 (.tmp 6), some (45, true)⟩,
                     ⟨some 47, .load none (.tmp 46), some (45, true)⟩,
                     ⟨some 48, .faddr 1 (.tmp 6), some (45, true)⟩,
                     ⟨some 49, .load none (.tmp 48), some (45, true)⟩,
                     ⟨some 50, .faddr 2 (.tmp 6), some (45, true)⟩,
                     ⟨some 51, .load none (.tmp 50), some (45, true)⟩,
                     ⟨some 52, .call (.lit (.fn (.func 58) [] [])) [.tmp 47, .tmp 49, .tmp 51], some (45, true)⟩,
                     ⟨some 53, .bin .eql .no (.tmp 52) (.lit (.int .i64 1)), some (45, true)⟩,
                     ⟨some 54, .pick (.tmp 45) (.tmp 53) (.lit (.bool false)), none⟩])
                  (.cond (.tmp 54) (.ops [⟨some 55, .mov (.tmp 3), none⟩,
                      ⟨some 56, .load (some 3) (.tmp 6), none⟩,
                      ⟨some 57, .bslice 1 3 [.int .i64 0, .int .i64 0, .int .i64 0] [(0, .tmp 56)], none⟩,
                      ⟨some 58, .append 3 24 [.int .i64 0, .int .i64 0, .int .i64 0] (.tmp 55) (.tmp 57), none⟩,
                      ⟨some 3, .mov (.tmp 58), none⟩]) .skip)))))
              (.ops [⟨some 21, .mov (.tmp 5), none⟩,
                 ⟨some 22, .bin .add .no (.tmp 21) (.lit (.int .i64 1)), none⟩,
                 ⟨some 5, .mov (.tmp 22), none⟩])))))))
        (.ops [⟨some 14, .mov (.tmp 4), none⟩,
           ⟨some 15, .bin .add .no (.tmp 14) (.lit (.int .i64 1)), none⟩,
           ⟨some 4, .mov (.tmp 15), none⟩]))))))
   (.seq (.ops [⟨some 59, .mov (.tmp 3), none⟩,
       ⟨some 2, .mov (.tmp 59), none⟩])
    .ret)))⟩
theorem ok24 : FnOK Go.Proofs.Try.prog 24 af24 := ⟨Go.Proofs.Try.f24, Go.Proofs.Try.func24, by kernel_rfl, by kernel_rfl⟩
def af25 : AFn := ⟨47, [.cell 2 (some 3), .tmp 3], .seq (.ops [⟨some 1, .box (.tmp 0), none⟩,
    ⟨some 2, .alloc [.int .i64 0, .int .i64 0, .int .i64 0], none⟩,
    ⟨some 3, .mov (.lit (.int .i64 0)), none⟩])
 (.seq (.ops [⟨some 6, .faddr 0 (.tmp 1), none⟩,
     ⟨some 7, .load none (.tmp 6), none⟩,
     ⟨some 8, .faddr 1 (.tmp 1), none⟩,
     ⟨some 9, .load none (.tmp 8), none⟩,
     ⟨some 10, .faddr 2 (.tmp 1), none⟩,
     ⟨some 11, .load none (.tmp 10), none⟩,
     ⟨some 12, .bslice 3 1 [.int .i64 0, .int .i64 0, .int .i64 0] [(0, .tmp 7), (1, .tmp 9), (2, .tmp 11)], none⟩,
     ⟨some 13, .call (.lit (.fn (.func 39) [] [])) [.tmp 12], none⟩,
     ⟨some 4, .mov (.tmp 13), none⟩])
  (.seq (.seq (.ops [⟨some 14, .mov (.tmp 4), none⟩,
       ⟨some 15, .bin .eql .no (.tmp 14) (.lit (.int .i64 0)), none⟩,
       ⟨some 16, .mov (.tmp 15), none⟩,
       ⟨some 17, .faddr 0 (.tmp 1), some (16, true)⟩,
       ⟨some 18, .load none (.tmp 17), some (16, true)⟩,
       ⟨some 19, .bin .leq .no (.tmp 18) (.lit (.int .i64 0)), some (16, true)⟩,
       ⟨some 20, .mov (.tmp 19), some (16, true)⟩,
       ⟨some 21, .faddr 1 (.tmp 1), some (20, false)⟩,
       ⟨some 22, .load none (.tmp 21), some (20, false)⟩,
       ⟨some 23, .faddr 1 (.tmp 1), some (20, false)⟩,
       ⟨some 24, .load none (.tmp 23), some (20, false)⟩,
       ⟨some 25, .bin .mul .no (.tmp 22) (.tmp 24), some (20, false)⟩,
       ⟨some 26, .faddr 0 (.tmp 1), some (20, false)⟩,
       ⟨some 27, .load none (.tmp 26), some (20, false)⟩,
       ⟨some 28, .bin .mul .no (.lit (.int .i64 4)) (.tmp 27), some (20, false)⟩,
       ⟨some 29, .faddr 2 (.tmp 1), some (20, false)⟩,
       ⟨some 30, .load none (.tmp 29), some (20, false)⟩,
       ⟨some 31, .bin .mul .no (.tmp 28) (.tmp 30), some (20, false)⟩,
       ⟨some 32, .bin .sub .no (.tmp 25) (.tmp 31), some (20, false)⟩,
       ⟨some 33, .bin .geq .no (.tmp 32) (.lit (.int .i64 0)), some (20, false)⟩,
       ⟨some 34, .pick (.tmp 20) (.lit (.bool true)) (.tmp 33), some (16, true)⟩,
       ⟨some 35, .pick (.tmp 16) (.tmp 34) (.lit (.bool false)), none⟩])
    (.cond (.tmp 35) (.ops [⟨some 4, .mov (.lit (.int .i64 3)), none⟩]) .skip))
   (.seq (.seq (.ops [⟨some 36, .mov (.tmp 4), none⟩,
        ⟨some 37, .bin .neq .no (.tmp 36) (.lit (.int .i64 0)), none⟩])
     (.cond (.tmp 37) (.seq (.ops [⟨some 38, .build [.int .i64 0, .int .i64 0, .int .i64 0] [], none⟩,
          ⟨some 39, .mov (.tmp 4), none⟩,
          ⟨none, .store 3 (.tmp 2) (.tmp 38), none⟩,
          ⟨some 3, .mov (.tmp 39), none⟩])
       .ret) .skip))
    (.block 0 (.loop (.block 1 (.seq (.ops [⟨some 40, .load (some 3) (.tmp 1), none⟩,
           ⟨some 41, .call (.lit (.fn (.func 59) [] [])) [.tmp 40], none⟩,
           ⟨some 5, .alloc [.int .i64 0, .int .i64 0, .int .i64 0], none⟩,
           ⟨none, .store 3 (.tmp 5) (.tmp 41), none⟩])
        (.seq (.seq (.ops [⟨some 42, .load (some 3) (.tmp 5), none⟩,
             ⟨some 43, .load (some 3) (.tmp 1), none⟩,
             ⟨some 44, .bin .eql (.flat [1, 1, 1]) (.tmp 42) (.tmp 43), none⟩])
          (.cond (.tmp 44) (.seq (.ops [⟨some 45, .load (some 3) (.tmp 1), none⟩,
               ⟨none, .store 3 (.tmp 2) (.tmp 45), none⟩,
               ⟨some 3, .mov (.lit (.int .i64 0)), none⟩])
            .ret) .skip))
         (.ops [⟨some 46, .load (some 3) (.tmp 5), none⟩,
            ⟨none, .store 3 (.tmp 1) (.tmp 46), none⟩])))))))))⟩
theorem ok25 : FnOK Go.Proofs.Try.prog 25 af25 := ⟨Go.Proofs.Try.f25, Go.Proofs.Try.func25, by kernel_rfl, by kernel_rfl⟩
def af26 : AFn := ⟨11, [.tmp 2], .seq (.ops [⟨some 1, .box (.tmp 0), none⟩,
    ⟨some 2, .mov (.lit (.bool false)), none⟩])
 (.seq (.ops [⟨some 3, .load (some 3) (.tmp 1), none⟩,
     ⟨some 4, .call (.lit (.fn (.func 34) [] [])) [.tmp 3], none⟩,
     ⟨some 5, .bin .lss .no (.tmp 4) (.lit (.int .i64 0)), none⟩,
     ⟨some 6, .mov (.tmp 5), none⟩,
     ⟨some 7, .faddr 0 (.tmp 1), some (6, true)⟩,
     ⟨some 8, .load none (.tmp 7), some (6, true)⟩,
     ⟨some 9, .bin .gtr .no (.tmp 8) (.lit (.int .i64 0)), some (6, true)⟩,
     ⟨some 10, .pick (.tmp 6) (.tmp 9) (.lit (.bool false)), none⟩,
     ⟨some 2, .mov (.tmp 10), none⟩])
  .ret)⟩
theorem ok26 : FnOK Go.Proofs.Try.prog 26 af26 := ⟨Go.Proofs.Try.f26, Go.Proofs.Try.func26, by kernel_rfl, by kernel_rfl⟩
def af27 : AFn := ⟨75, [.cell 2 (some 3)], .seq (.ops [⟨some 1, .box (.tmp 0), none⟩,
    ⟨some 2, .alloc [.int .i64 0, .int .i64 0, .int .i64 0], none⟩])
 (.seq (.seq (.ops [⟨some 3, .mov (.lit (.int .i64 0)), none⟩])
   (.block 0 (.loop (.seq (.seq (.ops [⟨some 5, .mov (.tmp 3), none⟩,
          ⟨some 6, .bin .lss .no (.tmp 5) (.lit (.int .i64 1000)), none⟩,
          ⟨some 7, .mov (.tmp 6), none⟩,
          ⟨some 8, .load (some 3) (.tmp 1), some (7, true)⟩,
          ⟨some 9, .call (.lit (.fn (.func 33) [] [])) [.tmp 8], some (7, true)⟩,
          ⟨some 10, .un .not (.tmp 9), some (7, true)⟩,
          ⟨some 11, .pick (.tmp 7) (.tmp 10) (.lit (.bool false)), none⟩])
       (.cond (.tmp 11) .skip (.exit 0)))
      (.seq (.block 1 (.seq (.ops [⟨some 14, .faddr 0 (.tmp 1), none⟩,
            ⟨some 15, .load none (.tmp 14), none⟩,
            ⟨some 16, .faddr 1 (.tmp 1), none⟩,
            ⟨some 17, .load none (.tmp 16), none⟩,
            ⟨some 18, .bin .sub .no (.tmp 15) (.tmp 17), none⟩,
            ⟨some 19, .faddr 0 (.tmp 1), none⟩,
            ⟨some 20, .load none (.tmp 19), none⟩,
            ⟨some 21, .bin .mul .no (.lit (.int .i64 2)) (.tmp 20), none⟩,
            ⟨some 22, .call (.lit (.fn (.func 60) [] [])) [.tmp 18, .tmp 21], none⟩,
            ⟨some 4, .mov (.tmp 22), none⟩])
         (.seq (.ops [⟨some 23, .faddr 0 (.tmp 1), none⟩,
             ⟨some 24, .load none (.tmp 23), none⟩,
             ⟨some 25, .mov (.tmp 4), none⟩,
             ⟨some 26, .bin .mul .no (.tmp 24) (.tmp 25), none⟩,
             ⟨some 27, .mov (.tmp 4), none⟩,
             ⟨some 28, .bin .mul .no (.tmp 26) (.tmp 27), none⟩,
             ⟨some 29, .faddr 1 (.tmp 1), none⟩,
             ⟨some 30, .load none (.tmp 29), none⟩,
             ⟨some 31, .mov (.tmp 4), none⟩,
             ⟨some 32, .bin .mul .no (.tmp 30) (.tmp 31), none⟩,
             ⟨some 33, .bin .add .no (.tmp 28) (.tmp 32), none⟩,
             ⟨some 34, .faddr 2 (.tmp 1), none⟩,
             ⟨some 35, .load none (.tmp 34), none⟩,
             ⟨some 36, .bin .add .no (.tmp 33) (.tmp 35), none⟩,
             ⟨some 37, .faddr 2 (.tmp 1), none⟩,
             ⟨none, .store 1 (.tmp 37) (.tmp 36), none⟩])
          (.seq (.ops [⟨some 38, .faddr 1 (.tmp 1), none⟩,
              ⟨some 39, .load none (.tmp 38), none⟩,
              ⟨some 40, .mov (.tmp 4), none⟩,
              ⟨some 41, .bin .mul .no (.lit (.int .i64 2)) (.tmp 40), none⟩,
              ⟨some 42, .faddr 0 (.tmp 1), none⟩,
              ⟨some 43, .load none (.tmp 42), none⟩,
              ⟨some 44, .bin .mul .no (.tmp 41) (.tmp 43), none⟩,
              ⟨some 45, .bin .add .no (.tmp 39) (.tmp 44), none⟩,
              ⟨some 46, .faddr 1 (.tmp 1), none⟩,
              ⟨none, .store 1 (.tmp 46) (.tmp 45), none⟩])
           (.seq (.ops [⟨some 47, .faddr 0 (.tmp 1), none⟩,
               ⟨some 48, .load none (.tmp 47), none⟩,
               ⟨some 49, .faddr 2 (.tmp 1), none⟩,
               ⟨some 50, .load none (.tmp 49), none⟩,
               ⟨some 51, .bin .gtr .no (.tmp 48) (.tmp 50), none⟩,
               ⟨some 52, .mov (.tmp 51), none⟩,
               ⟨some 53, .faddr 0 (.tmp 1), some (52, false)⟩,
               ⟨some 54, .load none (.tmp 53), some (52, false)⟩,
               ⟨some 55, .faddr 2 (.tmp 1), some (52, false)⟩,
               ⟨some 56, .load none (.tmp 55), some (52, false)⟩,
               ⟨some 57, .bin .eql .no (.tmp 54) (.tmp 56), some (52, false)⟩,
               ⟨some 58, .mov (.tmp 57), some (52, false)⟩,
               ⟨some 59, .faddr 1 (.tmp 1), some (58, true)⟩,
               ⟨some 60, .load none (.tmp 59), some (58, true)⟩,
               ⟨some 61, .bin .lss .no (.tmp 60) (.lit (.int .i64 0)), some (58, true)⟩,
               ⟨some 62, .pick (.tmp 58) (.tmp 61) (.lit (.bool false)), some (52, false)⟩,
               ⟨some 63, .pick (.tmp 52) (.lit (.bool true)) (.tmp 62), none⟩])
            (.cond (.tmp 63) (.ops [⟨some 64, .faddr 2 (.tmp 1), none⟩,
                ⟨some 65, .load none (.tmp 64), none⟩,
                ⟨some 66, .faddr 1 (.tmp 1), none⟩,
                ⟨some 67, .load none (.tmp 66), none⟩,
                ⟨some 68, .un .neg (.tmp 67), none⟩,
                ⟨some 69, .faddr 0 (.tmp 1), none⟩,
                ⟨some 70, .load none (.tmp 69), none⟩,
                ⟨some 71, .faddr 0 (.tmp 1), none⟩,
                ⟨none, .store 1 (.tmp 71) (.tmp 65), none⟩,
                ⟨some 72, .faddr 1 (.tmp 1), none⟩,
                ⟨none, .store 1 (.tmp 72) (.tmp 68), none⟩,
                ⟨some 73, .faddr 2 (.tmp 1), none⟩,
                ⟨none, .store 1 (.tmp 73) (.tmp 70), none⟩]) .skip))))))
       (.ops [⟨some 12, .mov (.tmp 3), none⟩,
          ⟨some 13, .bin .add .no (.tmp 12) (.lit (.int .i64 1)), none⟩,
          ⟨some 3, .mov (.tmp 13), none⟩]))))))
  (.seq (.ops [⟨some 74, .load (some 3) (.tmp 1), none⟩,
      ⟨none, .store 3 (.tmp 2) (.tmp 74), none⟩])
   .ret))⟩
theorem ok27 : FnOK Go.Proofs.Try.prog 27 af27 := ⟨Go.Proofs.Try.f27, Go.Proofs.Try.func27, by kernel_rfl, by kernel_rfl⟩
def af28 : AFn := ⟨62, [.tmp 4, .tmp 5, .tmp 6], .seq (.ops [⟨some 4, .mov (.lit (.int .i64 0)), none⟩,
    ⟨some 5, .mov (.lit (.int .i64 0)), none⟩,
    ⟨some 6, .mov (.lit (.int .i64 0)), none⟩])
 (.seq (.ops [⟨some 11, .mov (.tmp 0), none⟩,
     ⟨some 12, .mov (.tmp 1), none⟩,
     ⟨some 13, .bslice 2 1 [.int .i64 0, .int .i64 0] [(0, .tmp 11), (1, .tmp 12)], none⟩,
     ⟨some 14, .call (.lit (.fn (.func 39) [] [])) [.tmp 13], none⟩,
     ⟨some 7, .mov (.tmp 14), none⟩])
  (.seq (.seq (.ops [⟨some 15, .mov (.tmp 7), none⟩,
       ⟨some 16, .bin .eql .no (.tmp 15) (.lit (.int .i64 0)), none⟩,
       ⟨some 17, .mov (.tmp 16), none⟩,
       ⟨some 18, .mov (.tmp 0), some (17, true)⟩,
       ⟨some 19, .bin .geq .no (.tmp 18) (.lit (.int .i64 0)), some (17, true)⟩,
       ⟨some 20, .mov (.tmp 19), some (17, true)⟩,
       ⟨some 21, .mov (.tmp 0), some (20, false)⟩,
       ⟨some 22, .call (.lit (.fn (.func 42) [] [])) [.tmp 21], some (20, false)⟩,
       ⟨some 23, .un .not (.tmp 22), some (20, false)⟩,
       ⟨some 24, .pick (.tmp 20) (.lit (.bool true)) (.tmp 23), some (17, true)⟩,
       ⟨some 25, .pick (.tmp 17) (.tmp 24) (.lit (.bool false)), none⟩])
    (.cond (.tmp 25) (.ops [⟨some 7, .mov (.lit (.int .i64 3)), none⟩]) .skip))
   (.seq (.seq (.ops [⟨some 26, .mov (.tmp 7), none⟩,
        ⟨some 27, .bin .eql .no (.tmp 26) (.lit (.int .i64 0)), none⟩])
     (.cond (.tmp 27) (.ops [⟨some 28, .mov (.tmp 1), none⟩,
         ⟨some 29, .call (.lit (.fn (.func 61) [] [])) [.tmp 28], none⟩,
         ⟨some 7, .mov (.tmp 29), none⟩]) .skip))
    (.seq (.seq (.ops [⟨some 30, .mov (.tmp 7), none⟩,
         ⟨some 31, .bin .neq .no (.tmp 30) (.lit (.int .i64 0)), none⟩])
      (.cond (.tmp 31) (.seq (.ops [⟨some 32, .mov (.tmp 7), none⟩,
           ⟨some 4, .mov (.lit (.int .i64 0)), none⟩,
           ⟨some 5, .mov (.lit (.int .i64 0)), none⟩,
           ⟨some 6, .mov (.tmp 32), none⟩])
        .ret) .skip))
     (.seq (.seq (.ops [⟨some 8, .mov (.lit (.int .i64 0)), none⟩])
       (.block 0 (.loop (.seq (.seq (.ops [⟨some 33, .mov (.tmp 8), none⟩,
              ⟨some 34, .mov (.tmp 8), none⟩,
              ⟨some 35, .bin .mul .no (.tmp 33) (.tmp 34), none⟩,
              ⟨some 36, .mov (.tmp 1), none⟩,
              ⟨some 37, .bin .mul .no (.lit (.int .i64 4)) (.tmp 36), none⟩,
              ⟨some 38, .bin .leq .no (.tmp 35) (.tmp 37), none⟩])
           (.cond (.tmp 38) .skip (.exit 0)))
          (.seq (.block 1 (.seq (.ops [⟨some 41, .mov (.tmp 1), none⟩,
                ⟨some 42, .bin .mul .no (.lit (.int .i64 4)) (.tmp 41), none⟩,
                ⟨some 43, .mov (.tmp 8), none⟩,
                ⟨some 44, .mov (.tmp 8), none⟩,
                ⟨some 45, .bin .mul .no (.tmp 43) (.tmp 44), none⟩,
                ⟨some 46, .bin .sub .no (.tmp 42) (.tmp 45), none⟩,
                ⟨some 9, .mov (.tmp 46), none⟩])
             (.seq (.ops [⟨some 47, .mov (.tmp 9), none⟩,
                 ⟨some 48, .mov (.tmp 0), none⟩,
                 ⟨some 49, .un .neg (.tmp 48), none⟩,
                 ⟨some 50, .bin .quo .no (.tmp 47) (.tmp 49), none⟩,
                 ⟨some 51, .call (.lit (.fn (.func 62) [] [])) [.tmp 50], none⟩,
                 ⟨some 10, .mov (.tmp 51), none⟩])
              (.seq (.ops [⟨some 52, .mov (.tmp 10), none⟩,
                  ⟨some 53, .mov (.tmp 10), none⟩,
                  ⟨some 54, .bin .mul .no (.tmp 52) (.tmp 53), none⟩,
                  ⟨some 55, .mov (.tmp 0), none⟩,
                  ⟨some 56, .un .neg (.tmp 55), none⟩,
                  ⟨some 57, .bin .mul .no (.tmp 54) (.tmp 56), none⟩,
                  ⟨some 58, .mov (.tmp 9), none⟩,
                  ⟨some 59, .bin .eql .no (.tmp 57) (.tmp 58), none⟩])
               (.cond (.tmp 59) (.seq (.ops [⟨some 60, .mov (.tmp 8), none⟩,
                    ⟨some 61, .mov (.tmp 10), none⟩,
                    ⟨some 4, .mov (.tmp 60), none⟩,
                    ⟨some 5, .mov (.tmp 61), none⟩,
                    ⟨some 6, .mov (.lit (.int .i64 0)), none⟩])
                 .ret) .skip)))))
           (.ops [⟨some 39, .mov (.tmp 8), none⟩,
              ⟨some 40, .bin .add .no (.tmp 39) (.lit (.int .i64 1)), none⟩,
              ⟨some 8, .mov (.tmp 40), none⟩]))))))
      (.seq (.ops [⟨some 4, .mov (.lit (.int .i64 0)), none⟩,
          ⟨some 5, .mov (.lit (.int .i64 0)), none⟩,
          ⟨some 6, .mov (.lit (.int .i64 10)), none⟩])
       .ret))))))⟩
theorem ok28 : FnOK Go.Proofs.Try.prog 28 af28 := ⟨Go.Proofs.Try.f28, Go.Proofs.Try.func28, by kernel_rfl, by kernel_rfl⟩
def af29 : AFn := ⟨17, [.tmp 2], .seq (.ops [⟨some 2, .mov (.lit (.bool false)), none⟩])
 (.seq (.seq (.ops [⟨some 3, .mov (.lit (.int .i64 2)), none⟩])
   (.block 0 (.loop (.seq (.seq (.ops [⟨some 4, .mov (.tmp 3), none⟩,
          ⟨some 5, .mov (.tmp 3), none⟩,
          ⟨some 6, .bin .mul .no (.tmp 4) (.tmp 5), none⟩,
          ⟨some 7, .mov (.tmp 0), none⟩,
          ⟨some 8, .bin .leq .no (.tmp 6) (.tmp 7), none⟩])
       (.cond (.tmp 8) .skip (.exit 0)))
      (.seq (.block 1 (.seq (.ops [⟨some 11, .mov (.tmp 0), none⟩,
            ⟨some 12, .mov (.tmp 3), none⟩,
            ⟨some 13, .bin .rem .no (.tmp 11) (.tmp 12), none⟩,
            ⟨some 14, .bin .eql .no (.tmp 13) (.lit (.int .i64 0)), none⟩])
         (.cond (.tmp 14) (.seq (.ops [⟨some 2, .mov (.lit (.bool false)), none⟩])
           .ret) .skip)))
       (.ops [⟨some 9, .mov (.tmp 3), none⟩,
          ⟨some 10, .bin .add .no (.tmp 9) (.lit (.int .i64 1)), none⟩,
          ⟨some 3, .mov (.tmp 10), none⟩]))))))
  (.seq (.ops [⟨some 15, .mov (.tmp 0), none⟩,
      ⟨some 16, .bin .gtr .no (.tmp 15) (.lit (.int .i64 1)), none⟩,
      ⟨some 2, .mov (.tmp 16), none⟩])
   .ret))⟩
theorem ok29 : FnOK Go.Proofs.Try.prog 29 af29 := ⟨Go.Proofs.Try.f29, Go.Proofs.Try.func29, by kernel_rfl, by kernel_rfl⟩
def af30 : AFn := ⟨44, [.tmp 4, .tmp 5, .tmp 6], .seq (.ops [⟨some 4, .mov (.lit (.int .i64 0)), none⟩,
    ⟨some 5, .mov (.lit (.int .i64 0)), none⟩,
    ⟨some 6, .mov (.lit (.bool false)), none⟩])
 (.seq (.seq (.ops [⟨some 7, .mov (.lit (.int .i64 0)), none⟩])
   (.block 0 (.loop (.seq (.seq (.ops [⟨some 10, .mov (.tmp 7), none⟩,
          ⟨some 11, .mov (.tmp 7), none⟩,
          ⟨some 12, .bin .mul .no (.tmp 10) (.tmp 11), none⟩,
          ⟨some 13, .mov (.tmp 1), none⟩,
          ⟨some 14, .bin .mul .no (.lit (.int .i64 4)) (.tmp 13), none⟩,
          ⟨some 15, .bin .leq .no (.tmp 12) (.tmp 14), none⟩])
       (.cond (.tmp 15) .skip (.exit 0)))
      (.seq (.block 1 (.seq (.seq (.ops [⟨some 18, .mov (.tmp 1), none⟩,
             ⟨some 19, .bin .mul .no (.lit (.int .i64 4)) (.tmp 18), none⟩,
             ⟨some 20, .mov (.tmp 7), none⟩,
             ⟨some 21, .mov (.tmp 7), none⟩,
             ⟨some 22, .bin .mul .no (.tmp 20) (.tmp 21), none⟩,
             ⟨some 23, .bin .sub .no (.tmp 19) (.tmp 22), none⟩,
             ⟨some 24, .mov (.tmp 0), none⟩,
             ⟨some 25, .un .neg (.tmp 24), none⟩,
             ⟨some 26, .bin .rem .no (.tmp 23) (.tmp 25), none⟩,
             ⟨some 27, .bin .neq .no (.tmp 26) (.lit (.int .i64 0)), none⟩])
          (.cond (.tmp 27) (.exit 1) .skip))
         (.seq (.ops [⟨some 29, .mov (.tmp 1), none⟩,
             ⟨some 30, .bin .mul .no (.lit (.int .i64 4)) (.tmp 29), none⟩,
             ⟨some 31, .mov (.tmp 7), none⟩,
             ⟨some 32, .mov (.tmp 7), none⟩,
             ⟨some 33, .bin .mul .no (.tmp 31) (.tmp 32), none⟩,
             ⟨some 34, .bin .sub .no (.tmp 30) (.tmp 33), none⟩,
             ⟨some 35, .mov (.tmp 0), none⟩,
             ⟨some 36, .un .neg (.tmp 35), none⟩,
             ⟨some 37, .bin .quo .no (.tmp 34) (.tmp 36), none⟩,
             ⟨some 38, .call (.lit (.fn (.func 63) [] [])) [.tmp 37], none⟩,
             ⟨some 28, .mov (.tmp 38), none⟩,
             ⟨some 39, .extr 0 (.tmp 28), none⟩,
             ⟨some 40, .extr 1 (.tmp 28), none⟩,
             ⟨some 8, .mov (.tmp 39), none⟩,
             ⟨some 9, .mov (.tmp 40), none⟩])
          (.seq (.ops [⟨some 41, .mov (.tmp 9), none⟩])
           (.cond (.tmp 41) (.seq (.ops [⟨some 42, .mov (.tmp 7), none⟩,
                ⟨some 43, .mov (.tmp 8), none⟩,
                ⟨some 4, .mov (.tmp 42), none⟩,
                ⟨some 5, .mov (.tmp 43), none⟩,
                ⟨some 6, .mov (.lit (.bool true)), none⟩])
             .ret) .skip)))))
       (.ops [⟨some 16, .mov (.tmp 7), none⟩,
          ⟨some 17, .bin .add .no (.tmp 16) (.lit (.int .i64 1)), none⟩,
          ⟨some 7, .mov (.tmp 17), none⟩]))))))
  (.seq (.ops [⟨some 4, .mov (.lit (.int .i64 0)), none⟩,
      ⟨some 5, .mov (.lit (.int .i64 0)), none⟩,
      ⟨some 6, .mov (.lit (.bool false)), none⟩])
   .ret))⟩
theorem ok30 : FnOK Go.Proofs.Try.prog 30 af30 := ⟨Go.Proofs.Try.f30, Go.Proofs.Try.func30, by kernel_rfl, by kernel_rfl⟩
def af31 : AFn := ⟨24, [.tmp 4, .tmp 5], .seq (.ops [⟨some 4, .mov (.lit (.int .i64 0)), none⟩,
    ⟨some 5, .mov (.lit (.int .i64 0)), none⟩])
 (.seq (.ops [⟨some 7, .mov (.tmp 0), none⟩,
     ⟨some 8, .mov (.tmp 1), none⟩,
     ⟨some 9, .bslice 2 1 [.int .i64 0, .int .i64 0] [(0, .tmp 7), (1, .tmp 8)], none⟩,
     ⟨some 10, .call (.lit (.fn (.func 39) [] [])) [.tmp 9], none⟩,
     ⟨some 6, .mov (.tmp 10), none⟩])
  (.seq (.seq (.ops [⟨some 11, .mov (.tmp 6), none⟩,
       ⟨some 12, .bin .eql .no (.tmp 11) (.lit (.int .i64 0)), none⟩,
       ⟨some 13, .mov (.tmp 12), none⟩,
       ⟨some 14, .mov (.tmp 0), some (13, true)⟩,
       ⟨some 15, .call (.lit (.fn (.func 41) [] [])) [.tmp 14], some (13, true)⟩,
       ⟨some 16, .bin .gtr .no (.tmp 15) (.lit (.int .i64 1)), some (13, true)⟩,
       ⟨some 17, .pick (.tmp 13) (.tmp 16) (.lit (.bool false)), none⟩])
    (.cond (.tmp 17) (.ops [⟨some 6, .mov (.lit (.int .i64 3)), none⟩]) .skip))
   (.seq (.seq (.ops [⟨some 18, .mov (.tmp 6), none⟩,
        ⟨some 19, .bin .neq .no (.tmp 18) (.lit (.int .i64 0)), none⟩])
     (.cond (.tmp 19) (.seq (.ops [⟨some 20, .mov (.tmp 6), none⟩,
          ⟨some 4, .mov (.lit (.int .i64 0)), none⟩,
          ⟨some 5, .mov (.tmp 20), none⟩])
       .ret) .skip))
    (.seq (.ops [⟨some 21, .mov (.tmp 0), none⟩,
        ⟨some 22, .mov (.tmp 1), none⟩,
        ⟨some 23, .call (.lit (.fn (.func 64) [] [])) [.tmp 21, .tmp 22], none⟩,
        ⟨some 4, .mov (.tmp 23), none⟩,
        ⟨some 5, .mov (.lit (.int .i64 0)), none⟩])
     .ret))))⟩
theorem ok31 : FnOK Go.Proofs.Try.prog 31 af31 := ⟨Go.Proofs.Try.f31, Go.Proofs.Try.func31, by kernel_rfl, by kernel_rfl⟩
def af32 : AFn := ⟨12, [.tmp 4], .seq (.ops [⟨some 4, .mov (.lit (.int .i64 0)), none⟩])
 (.seq (.block 0 (.loop (.seq (.seq (.ops [⟨some 5, .mov (.tmp 1), none⟩,
         ⟨some 6, .bin .gtr .no (.tmp 5) (.lit (.int .i64 0)), none⟩])
      (.cond (.tmp 6) .skip (.exit 0)))
     (.block 1 (.draw [(⟨some 7, .mov (.tmp 1), none⟩, 0),
         (⟨some 8, .mov (.tmp 0), none⟩, 0),
         (⟨some 9, .mov (.tmp 1), none⟩, 0),
         (⟨some 10, .bin .rem .no (.tmp 8) (.tmp 9), none⟩, 0),
         (⟨some 0, .mov (.tmp 7), none⟩, 0),
         (⟨some 1, .mov (.tmp 10), none⟩, 0)])))))
  (.seq (.ops [⟨some 11, .mov (.tmp 0), none⟩,
      ⟨some 4, .mov (.tmp 11), none⟩])
   .ret))⟩
theorem ok32 : FnOK Go.Proofs.Try.prog 32 af32 := ⟨Go.Proofs.Try.f32, Go.Proofs.Try.func32, by kernel_rfl, by kernel_rfl⟩
def af33 : AFn := ⟨36, [.tmp 2], .seq (.ops [⟨some 1, .box (.tmp 0), none⟩,
    ⟨some 2, .mov (.lit (.bool false)), none⟩])
 (.seq (.ops [⟨some 4, .faddr 1 (.tmp 1), none⟩,
     ⟨some 5, .load none (.tmp 4), none⟩,
     ⟨some 6, .call (.lit (.fn (.func 44) [] [])) [.tmp 5], none⟩,
     ⟨some 3, .mov (.tmp 6), none⟩])
  (.seq (.ops [⟨some 7, .mov (.tmp 3), none⟩,
      ⟨some 8, .faddr 0 (.tmp 1), none⟩,
      ⟨some 9, .load none (.tmp 8), none⟩,
      ⟨some 10, .bin .leq .no (.tmp 7) (.tmp 9), none⟩,
      ⟨some 11, .mov (.tmp 10), none⟩,
      ⟨some 12, .faddr 0 (.tmp 1), some (11, true)⟩,
      ⟨some 13, .load none (.tmp 12), some (11, true)⟩,
      ⟨some 14, .faddr 2 (.tmp 1), some (11, true)⟩,
      ⟨some 15, .load none (.tmp 14), some (11, true)⟩,
      ⟨some 16, .bin .leq .no (.tmp 13) (.tmp 15), some (11, true)⟩,
      ⟨some 17, .pick (.tmp 11) (.tmp 16) (.lit (.bool false)), none⟩,
      ⟨some 18, .mov (.tmp 17), none⟩,
      ⟨some 19, .faddr 1 (.tmp 1), some (18, true)⟩,
      ⟨some 20, .load none (.tmp 19), some (18, true)⟩,
      ⟨some 21, .bin .geq .no (.tmp 20) (.lit (.int .i64 0)), some (18, true)⟩,
      ⟨some 22, .mov (.tmp 21), some (18, true)⟩,
      ⟨some 23, .mov (.tmp 3), some (22, false)⟩,
      ⟨some 24, .faddr 0 (.tmp 1), some (22, false)⟩,
      ⟨some 25, .load none (.tmp 24), some (22, false)⟩,
      ⟨some 26, .bin .neq .no (.tmp 23) (.tmp 25), some (22, false)⟩,
      ⟨some 27, .mov (.tmp 26), some (22, false)⟩,
      ⟨some 28, .faddr 0 (.tmp 1), some (27, true)⟩,
      ⟨some 29, .load none (.tmp 28), some (27, true)⟩,
      ⟨some 30, .faddr 2 (.tmp 1), some (27, true)⟩,
      ⟨some 31, .load none (.tmp 30), some (27, true)⟩,
      ⟨some 32, .bin .neq .no (.tmp 29) (.tmp 31), some (27, true)⟩,
      ⟨some 33, .pick (.tmp 27) (.tmp 32) (.lit (.bool false)), some (22, false)⟩,
      ⟨some 34, .pick (.tmp 22) (.lit (.bool true)) (.tmp 33), some (18, true)⟩,
      ⟨some 35, .pick (.tmp 18) (.tmp 34) (.lit (.bool false)), none⟩,
      ⟨some 2, .mov (.tmp 35), none⟩])
   .ret))⟩
theorem ok33 : FnOK Go.Proofs.Try.prog 33 af33 := ⟨Go.Proofs.Try.f33, Go.Proofs.Try.func33, by kernel_rfl, by kernel_rfl⟩
def af34 : AFn := ⟨15, [.tmp 2], .seq (.ops [⟨some 1, .box (.tmp 0), none⟩,
    ⟨some 2, .mov (.lit (.int .i64 0)), none⟩])
 (.seq (.ops [⟨some 3, .faddr 1 (.tmp 1), none⟩,
     ⟨some 4, .load none (.tmp 3), none⟩,
     ⟨some 5, .faddr 1 (.tmp 1), none⟩,
     ⟨some 6, .load none (.tmp 5), none⟩,
     ⟨some 7, .bin .mul .no (.tmp 4) (.tmp 6), none⟩,
     ⟨some 8, .faddr 0 (.tmp 1), none⟩,
     ⟨some 9, .load none (.tmp 8), none⟩,
     ⟨some 10, .bin .mul .no (.lit (.int .i64 4)) (.tmp 9), none⟩,
     ⟨some 11, .faddr 2 (.tmp 1), none⟩,
     ⟨some 12, .load none (.tmp 11), none⟩,
     ⟨some 13, .bin .mul .no (.tmp 10) (.tmp 12), none⟩,
     ⟨some 14, .bin .sub .no (.tmp 7) (.tmp 13), none⟩,
     ⟨some 2, .mov (.tmp 14), none⟩])
  .ret)⟩
theorem ok34 : FnOK Go.Proofs.Try.prog 34 af34 := ⟨Go.Proofs.Try.f34, Go.Proofs.Try.func34, by kernel_rfl, by kernel_rfl⟩
def af35 : AFn := ⟨28, [.tmp 4, .tmp 5], .seq (.ops [⟨some 4, .mov (.lit (.int .i64 0)), none⟩,
    ⟨some 5, .mov (.lit (.int .i64 0)), none⟩])
 (.seq (.ops [⟨some 7, .mov (.tmp 0), none⟩,
     ⟨some 8, .mov (.tmp 1), none⟩,
     ⟨some 9, .bslice 2 1 [.int .i64 0, .int .i64 0] [(0, .tmp 7), (1, .tmp 8)], none⟩,
     ⟨some 10, .call (.lit (.fn (.func 39) [] [])) [.tmp 9], none⟩,
     ⟨some 6, .mov (.tmp 10), none⟩])
  (.seq (.seq (.ops [⟨some 11, .mov (.tmp 6), none⟩,
       ⟨some 12, .bin .eql .no (.tmp 11) (.lit (.int .i64 0)), none⟩,
       ⟨some 13, .mov (.tmp 12), none⟩,
       ⟨some 14, .mov (.tmp 0), some (13, true)⟩,
       ⟨some 15, .call (.lit (.fn (.func 42) [] [])) [.tmp 14], some (13, true)⟩,
       ⟨some 16, .un .not (.tmp 15), some (13, true)⟩,
       ⟨some 17, .pick (.tmp 13) (.tmp 16) (.lit (.bool false)), none⟩])
    (.cond (.tmp 17) (.ops [⟨some 6, .mov (.lit (.int .i64 3)), none⟩]) .skip))
   (.seq (.seq (.ops [⟨some 18, .mov (.tmp 6), none⟩,
        ⟨some 19, .bin .eql .no (.tmp 18) (.lit (.int .i64 0)), none⟩])
     (.cond (.tmp 19) (.ops [⟨some 20, .mov (.tmp 1), none⟩,
         ⟨some 21, .call (.lit (.fn (.func 61) [] [])) [.tmp 20], none⟩,
         ⟨some 6, .mov (.tmp 21), none⟩]) .skip))
    (.seq (.seq (.ops [⟨some 22, .mov (.tmp 6), none⟩,
         ⟨some 23, .bin .neq .no (.tmp 22) (.lit (.int .i64 0)), none⟩])
      (.cond (.tmp 23) (.seq (.ops [⟨some 24, .mov (.tmp 6), none⟩,
           ⟨some 4, .mov (.lit (.int .i64 0)), none⟩,
           ⟨some 5, .mov (.tmp 24), none⟩])
        .ret) .skip))
     (.seq (.ops [⟨some 25, .mov (.tmp 0), none⟩,
         ⟨some 26, .mov (.tmp 1), none⟩,
         ⟨some 27, .call (.lit (.fn (.func 64) [] [])) [.tmp 25, .tmp 26], none⟩,
         ⟨some 4, .mov (.tmp 27), none⟩,
         ⟨some 5, .mov (.lit (.int .i64 0)), none⟩])
      .ret)))))⟩
theorem ok35 : FnOK Go.Proofs.Try.prog 35 af35 := ⟨Go.Proofs.Try.f35, Go.Proofs.Try.func35, by kernel_rfl, by kernel_rfl⟩
def af36 : AFn := ⟨12, [.tmp 4], .seq (.ops [⟨some 4, .mov (.lit (.int .i64 0)), none⟩])
 (.seq (.ops [⟨some 5, .mov (.tmp 0), none⟩,
     ⟨some 6, .mov (.tmp 1), none⟩,
     ⟨some 7, .bin .rem .no (.tmp 5) (.tmp 6), none⟩,
     ⟨some 8, .mov (.tmp 1), none⟩,
     ⟨some 9, .bin .add .no (.tmp 7) (.tmp 8), none⟩,
     ⟨some 10, .mov (.tmp 1), none⟩,
     ⟨some 11, .bin .rem .no (.tmp 9) (.tmp 10), none⟩,
     ⟨some 4, .mov (.tmp 11), none⟩])
  .ret)⟩
theorem ok36 : FnOK Go.Proofs.Try.prog 36 af36 := ⟨Go.Proofs.Try.f36, Go.Proofs.Try.func36, by kernel_rfl, by kernel_rfl⟩
def af37 : AFn := ⟨47, [.tmp 4], .seq (.ops [⟨some 4, .mov (.lit (.int .i64 0)), none⟩])
 (.seq (.seq (.ops [⟨some 9, .mov (.tmp 1), none⟩,
      ⟨some 10, .bin .eql .no (.tmp 9) (.lit (.int .i64 0)), none⟩])
   (.cond (.tmp 10) (.seq (.seq (.ops [⟨some 11, .mov (.tmp 0), none⟩,
         ⟨some 12, .bin .eql .no (.tmp 11) (.lit (.int .i64 1)), none⟩])
      (.cond (.tmp 12) (.seq (.ops [⟨some 4, .mov (.lit (.int .i64 1)), none⟩])
        .ret) .skip))
     (.seq (.ops [⟨some 4, .mov (.lit (.int .i64 0)), none⟩])
      .ret)) .skip))
  (.seq (.ops [⟨some 5, .mov (.lit (.int .i64 1)), none⟩])
   (.seq (.seq (.ops [⟨some 13, .mov (.tmp 1), none⟩,
        ⟨some 14, .bin .lss .no (.tmp 13) (.lit (.int .i64 0)), none⟩,
        ⟨some 15, .mov (.tmp 14), none⟩,
        ⟨some 16, .mov (.tmp 0), some (15, true)⟩,
        ⟨some 17, .bin .lss .no (.tmp 16) (.lit (.int .i64 0)), some (15, true)⟩,
        ⟨some 18, .pick (.tmp 15) (.tmp 17) (.lit (.bool false)), none⟩])
     (.cond (.tmp 18) (.ops [⟨some 5, .mov (.lit (.int .i64 (-1))), none⟩]) .skip))
    (.seq (.ops [⟨some 19, .mov (.tmp 1), none⟩,
        ⟨some 20, .call (.lit (.fn (.func 44) [] [])) [.tmp 19], none⟩,
        ⟨some 21, .call (.lit (.fn (.func 65) [] [])) [.tmp 20], none⟩,
        ⟨some 6, .mov (.tmp 21), none⟩])
     (.seq (.seq (.ops [⟨some 7, .mov (.lit (.int .i64 0)), none⟩])
       (.block 0 (.loop (.seq (.seq (.ops [⟨some 22, .mov (.tmp 7), none⟩,
              ⟨some 23, .mov (.tmp 6), none⟩,
              ⟨some 24, .len 1 (.tmp 23), none⟩,
              ⟨some 25, .bin .lss .no (.tmp 22) (.tmp 24), none⟩])
           (.cond (.tmp 25) .skip (.exit 0)))
          (.seq (.block 1 (.seq (.ops [⟨some 8, .mov (.lit (.int .i64 0)), none⟩])
             (.block 2 (.loop (.seq (.seq (.ops [⟨some 28, .mov (.tmp 8), none⟩,
                    ⟨some 29, .mov (.tmp 6), none⟩,
                    ⟨some 30, .mov (.tmp 7), none⟩,
                    ⟨some 31, .iaddr none 2 (.tmp 29) (.tmp 30), none⟩,
                    ⟨some 32, .faddr 1 (.tmp 31), none⟩,
                    ⟨some 33, .load none (.tmp 32), none⟩,
                    ⟨some 34, .bin .lss .no (.tmp 28) (.tmp 33), none⟩])
                 (.cond (.tmp 34) .skip (.exit 2)))
                (.seq (.block 3 (.ops [⟨some 37, .mov (.tmp 5), none⟩,
                     ⟨some 38, .mov (.tmp 0), none⟩,
                     ⟨some 39, .mov (.tmp 6), none⟩,
                     ⟨some 40, .mov (.tmp 7), none⟩,
                     ⟨some 41, .iaddr none 2 (.tmp 39) (.tmp 40), none⟩,
                     ⟨some 42, .faddr 0 (.tmp 41), none⟩,
                     ⟨some 43, .load none (.tmp 42), none⟩,
                     ⟨some 44, .call (.lit (.fn (.func 66) [] [])) [.tmp 38, .tmp 43], none⟩,
                     ⟨some 45, .bin .mul .no (.tmp 37) (.tmp 44), none⟩,
                     ⟨some 5, .mov (.tmp 45), none⟩]))
                 (.ops [⟨some 35, .mov (.tmp 8), none⟩,
                    ⟨some 36, .bin .add .no (.tmp 35) (.lit (.int .i64 1)), none⟩,
                    ⟨some 8, .mov (.tmp 36), none⟩])))))))
           (.ops [⟨some 26, .mov (.tmp 7), none⟩,
              ⟨some 27, .bin .add .no (.tmp 26) (.lit (.int .i64 1)), none⟩,
              ⟨some 7, .mov (.tmp 27), none⟩]))))))
      (.seq (.ops [⟨some 46, .mov (.tmp 5), none⟩,
          ⟨some 4, .mov (.tmp 46), none⟩])
       .ret))))))⟩
theorem ok37 : FnOK Go.Proofs.Try.prog 37 af37 := ⟨Go.Proofs.Try.f37, Go.Proofs.Try.func37, by kernel_rfl, by kernel_rfl⟩
def af38 : AFn := ⟨9, [.tmp 4], .seq (.ops [⟨some 3, .box (.tmp 1), none⟩,
    ⟨some 4, .mov (.lit (.bool false)), none⟩])
 (.seq (.ops [⟨some 5, .mov (.tmp 0), none⟩,
     ⟨some 6, .load (some 3) (.tmp 3), none⟩,
     ⟨some 7, .call (.lit (.fn (.func 67) [] [])) [.tmp 5, .tmp 6], none⟩,
     ⟨some 8, .bin .geq .no (.tmp 7) (.lit (.int .i64 0)), none⟩,
     ⟨some 4, .mov (.tmp 8), none⟩])
  .ret)⟩
theorem ok38 : FnOK Go.Proofs.Try.prog 38 af38 := ⟨Go.Proofs.Try.f38, Go.Proofs.Try.func38, by kernel_rfl, by kernel_rfl⟩
def af39 : AFn := ⟨18, [.tmp 2], .seq (.ops [⟨some 2, .mov (.lit (.int .i64 0)), none⟩])
 (.seq (.seq (.ops [⟨some 5, .mov (.tmp 0), none⟩,
      ⟨some 6, .len 1 (.tmp 5), none⟩,
      ⟨some 7, .mov (.lit (.int .i64 0)), none⟩])
   (.block 0 (.loop (.seq (.ops [⟨some 8, .bin .lss .no (.tmp 7) (.tmp 6), none⟩])
      (.seq (.cond (.tmp 8) .skip (.exit 0))
       (.seq (.block 1 (.seq (.ops [⟨some 9, .iaddr none 1 (.tmp 5) (.tmp 7), none⟩,
             ⟨some 10, .load none (.tmp 9), none⟩,
             ⟨some 4, .mov (.tmp 10), none⟩])
          (.seq (.ops [⟨some 11, .mov (.tmp 4), none⟩,
              ⟨some 12, .bin .gtr .no (.tmp 11) (.lit (.int .i64 100000)), none⟩,
              ⟨some 13, .mov (.tmp 12), none⟩,
              ⟨some 14, .mov (.tmp 4), some (13, false)⟩,
              ⟨some 15, .bin .lss .no (.tmp 14) (.lit (.int .i64 (-100000))), some (13, false)⟩,
              ⟨some 16, .pick (.tmp 13) (.lit (.bool true)) (.tmp 15), none⟩])
           (.cond (.tmp 16) (.seq (.ops [⟨some 2, .mov (.lit (.int .i64 4)), none⟩])
             .ret) .skip))))
        (.ops [⟨some 17, .bin .add .no (.tmp 7) (.lit (.int .i64 1)), none⟩,
           ⟨some 7, .mov (.tmp 17), none⟩])))))))
  (.seq (.ops [⟨some 2, .mov (.lit (.int .i64 0)), none⟩])
   .ret))⟩
theorem ok39 : FnOK Go.Proofs.Try.prog 39 af39 := ⟨Go.Proofs.Try.f39, Go.Proofs.Try.func39, by kernel_rfl, by kernel_rfl⟩
def af40 : AFn := ⟨32, [.tmp 2, .tmp 3], .seq (.ops [⟨some 2, .mov (.lit (.int .i64 0)), none⟩,
    ⟨some 3, .mov (.lit (.int .i64 0)), none⟩])
 (.seq (.ops [⟨some 4, .mov (.lit (.int .i64 1)), none⟩])
  (.seq (.seq (.ops [⟨some 5, .mov (.lit (.int .i64 2)), none⟩])
    (.block 0 (.loop (.seq (.seq (.ops [⟨some 6, .mov (.tmp 5), none⟩,
           ⟨some 7, .mov (.tmp 5), none⟩,
           ⟨some 8, .bin .mul .no (.tmp 6) (.tmp 7), none⟩,
           ⟨some 9, .mov (.tmp 0), none⟩,
           ⟨some 10, .mov (.tmp 0), none⟩,
           ⟨some 11, .un .neg (.tmp 10), none⟩,
           ⟨some 12, .mx [.tmp 9, .tmp 11], none⟩,
           ⟨some 13, .bin .leq .no (.tmp 8) (.tmp 12), none⟩])
        (.cond (.tmp 13) .skip (.exit 0)))
       (.seq (.block 1 (.block 2 (.loop (.seq (.seq (.ops [⟨some 16, .mov (.tmp 0), none⟩,
                ⟨some 17, .mov (.tmp 5), none⟩,
                ⟨some 18, .mov (.tmp 5), none⟩,
                ⟨some 19, .bin .mul .no (.tmp 17) (.tmp 18), none⟩,
                ⟨some 20, .bin .rem .no (.tmp 16) (.tmp 19), none⟩,
                ⟨some 21, .bin .eql .no (.tmp 20) (.lit (.int .i64 0)), none⟩])
             (.cond (.tmp 21) .skip (.exit 2)))
            (.block 3 (.seq (.ops [⟨some 22, .mov (.tmp 0), none⟩,
                 ⟨some 23, .mov (.tmp 5), none⟩,
                 ⟨some 24, .mov (.tmp 5), none⟩,
                 ⟨some 25, .bin .mul .no (.tmp 23) (.tmp 24), none⟩,
                 ⟨some 26, .bin .quo .no (.tmp 22) (.tmp 25), none⟩,
                 ⟨some 0, .mov (.tmp 26), none⟩])
              (.ops [⟨some 27, .mov (.tmp 4), none⟩,
                 ⟨some 28, .mov (.tmp 5), none⟩,
                 ⟨some 29, .bin .mul .no (.tmp 27) (.tmp 28), none⟩,
                 ⟨some 4, .mov (.tmp 29), none⟩])))))))
        (.ops [⟨some 14, .mov (.tmp 5), none⟩,
           ⟨some 15, .bin .add .no (.tmp 14) (.lit (.int .i64 1)), none⟩,
           ⟨some 5, .mov (.tmp 15), none⟩]))))))
   (.seq (.ops [⟨some 30, .mov (.tmp 0), none⟩,
       ⟨some 31, .mov (.tmp 4), none⟩,
       ⟨some 2, .mov (.tmp 30), none⟩,
       ⟨some 3, .mov (.tmp 31), none⟩])
    .ret)))⟩
theorem ok40 : FnOK Go.Proofs.Try.prog 40 af40 := ⟨Go.Proofs.Try.f40, Go.Proofs.Try.func40, by kernel_rfl, by kernel_rfl⟩
def af41 : AFn := ⟨5, [.tmp 2], .seq (.ops [⟨some 2, .mov (.lit (.int .i64 0)), none⟩])
 (.seq (.ops [⟨some 3, .mov (.tmp 0), none⟩,
     ⟨some 4, .bin .and .no (.tmp 3) (.lit (.int .i64 3)), none⟩,
     ⟨some 2, .mov (.tmp 4), none⟩])
  .ret)⟩
theorem ok41 : FnOK Go.Proofs.Try.prog 41 af41 := ⟨Go.Proofs.Try.f41, Go.Proofs.Try.func41, by kernel_rfl, by kernel_rfl⟩
def af42 : AFn := ⟨41, [.tmp 2], .seq (.ops [⟨some 2, .mov (.lit (.bool false)), none⟩])
 (.seq (.seq (.ops [⟨some 8, .mov (.tmp 0), none⟩,
      ⟨some 9, .bin .eql .no (.tmp 8) (.lit (.int .i64 0)), none⟩,
      ⟨some 10, .mov (.tmp 9), none⟩,
      ⟨some 11, .mov (.tmp 0), some (10, false)⟩,
      ⟨some 12, .bin .eql .no (.tmp 11) (.lit (.int .i64 1)), some (10, false)⟩,
      ⟨some 13, .pick (.tmp 10) (.lit (.bool true)) (.tmp 12), none⟩])
   (.cond (.tmp 13) (.seq (.ops [⟨some 2, .mov (.lit (.bool false)), none⟩])
     .ret) .skip))
  (.seq (.seq (.ops [⟨some 14, .mov (.tmp 0), none⟩,
       ⟨some 15, .call (.lit (.fn (.func 41) [] [])) [.tmp 14], none⟩,
       ⟨some 16, .bin .eql .no (.tmp 15) (.lit (.int .i64 1)), none⟩])
    (.cond (.tmp 16) (.seq (.ops [⟨some 18, .mov (.tmp 0), none⟩,
         ⟨some 19, .call (.lit (.fn (.func 40) [] [])) [.tmp 18], none⟩,
         ⟨some 17, .mov (.tmp 19), none⟩,
         ⟨some 20, .extr 0 (.tmp 17), none⟩,
         ⟨some 21, .extr 1 (.tmp 17), none⟩,
         ⟨some 3, .mov (.tmp 20), none⟩,
         ⟨some 4, .mov (.tmp 21), none⟩])
      (.seq (.ops [⟨some 22, .mov (.tmp 4), none⟩,
          ⟨some 23, .bin .eql .no (.tmp 22) (.lit (.int .i64 1)), none⟩,
          ⟨some 2, .mov (.tmp 23), none⟩])
       .ret)) .skip))
   (.seq (.seq (.ops [⟨some 24, .mov (.tmp 0), none⟩,
        ⟨some 25, .call (.lit (.fn (.func 41) [] [])) [.tmp 24], none⟩,
        ⟨some 26, .bin .neq .no (.tmp 25) (.lit (.int .i64 0)), none⟩])
     (.cond (.tmp 26) (.seq (.ops [⟨some 2, .mov (.lit (.bool false)), none⟩])
       .ret) .skip))
    (.seq (.ops [⟨some 27, .mov (.tmp 0), none⟩,
        ⟨some 28, .bin .quo .no (.tmp 27) (.lit (.int .i64 4)), none⟩,
        ⟨some 5, .mov (.tmp 28), none⟩])
     (.seq (.ops [⟨some 30, .mov (.tmp 5), none⟩,
         ⟨some 31, .call (.lit (.fn (.func 40) [] [])) [.tmp 30], none⟩,
         ⟨some 29, .mov (.tmp 31), none⟩,
         ⟨some 32, .extr 0 (.tmp 29), none⟩,
         ⟨some 33, .extr 1 (.tmp 29), none⟩,
         ⟨some 6, .mov (.tmp 32), none⟩,
         ⟨some 7, .mov (.tmp 33), none⟩])
      (.seq (.ops [⟨some 34, .mov (.tmp 7), none⟩,
          ⟨some 35, .bin .eql .no (.tmp 34) (.lit (.int .i64 1)), none⟩,
          ⟨some 36, .mov (.tmp 35), none⟩,
          ⟨some 37, .mov (.tmp 5), some (36, true)⟩,
          ⟨some 38, .call (.lit (.fn (.func 41) [] [])) [.tmp 37], some (36, true)⟩,
          ⟨some 39, .bin .gtr .no (.tmp 38) (.lit (.int .i64 1)), some (36, true)⟩,
          ⟨some 40, .pick (.tmp 36) (.tmp 39) (.lit (.bool false)), none⟩,
          ⟨some 2, .mov (.tmp 40), none⟩])
       .ret))))))⟩
theorem ok42 : FnOK Go.Proofs.Try.prog 42 af42 := ⟨Go.Proofs.Try.f42, Go.Proofs.Try.func42, by kernel_rfl, by kernel_rfl⟩
def af43 : AFn := ⟨10, [.cell 4 (some 4)], .seq (.ops [⟨some 4, .alloc [.bool false, .str [], .bool false, .str []], none⟩])
 (.seq (.ops [⟨some 5, .mov (.tmp 0), none⟩,
     ⟨some 6, .call (.lit (.fn (.func 51) [] [])) [.tmp 5], none⟩,
     ⟨some 7, .mov (.tmp 1), none⟩,
     ⟨some 8, .call (.lit (.fn (.func 51) [] [])) [.tmp 7], none⟩,
     ⟨some 9, .build [.bool false, .str [], .bool false, .str []] [(0, (2, .tmp 6)), (2, (2, .tmp 8))], none⟩,
     ⟨none, .store 4 (.tmp 4) (.tmp 9), none⟩])
  .ret)⟩
theorem ok43 : FnOK Go.Proofs.Try.prog 43 af43 := ⟨Go.Proofs.Try.f43, Go.Proofs.Try.func43, by kernel_rfl, by kernel_rfl⟩
def af44 : AFn := ⟨7, [.tmp 2], .seq (.ops [⟨some 2, .mov (.lit (.int .i64 0)), none⟩])
 (.seq (.ops [⟨some 3, .mov (.tmp 0), none⟩,
     ⟨some 4, .mov (.tmp 0), none⟩,
     ⟨some 5, .un .neg (.tmp 4), none⟩,
     ⟨some 6, .mx [.tmp 3, .tmp 5], none⟩,
     ⟨some 2, .mov (.tmp 6), none⟩])
  .ret)⟩
theorem ok44 : FnOK Go.Proofs.Try.prog 44 af44 := ⟨Go.Proofs.Try.f44, Go.Proofs.Try.func44, by kernel_rfl, by kernel_rfl⟩
def af45 : AFn := ⟨4, [.tmp 2], .seq (.ops [⟨some 1, .box (.tmp 0), none⟩,
    ⟨some 2, .mov (.lit .nilf), none⟩])
 (.seq (.ops [⟨some 3, .mkfn (.func 68) [] [.tmp 1], none⟩,
     ⟨some 2, .mov (.tmp 3), none⟩])
  .ret)⟩
theorem ok45 : FnOK Go.Proofs.Try.prog 45 af45 := ⟨Go.Proofs.Try.f45, Go.Proofs.Try.func45, by kernel_rfl, by kernel_rfl⟩
def af46 : AFn := ⟨9, [.cell 4 (some 2)], .seq (.ops [⟨some 2, .box (.tmp 0), none⟩,
    ⟨some 3, .box (.tmp 1), none⟩,
    ⟨some 4, .alloc [.bool false, .str []], none⟩])
 (.seq (.draw [(⟨some 5, .load (some 2) (.tmp 2), none⟩, 1),
     (⟨some 6, .load (some 2) (.tmp 3), none⟩, 0),
     (⟨some 7, .call (.lit (.fn (.func 70) [] [])) [.tmp 6], none⟩, 0),
     (⟨some 8, .call (.lit (.fn (.func 69) [] [])) [.tmp 5, .tmp 7], none⟩, 0),
     (⟨none, .store 2 (.tmp 4) (.tmp 8), none⟩, 0)])
  .ret)⟩
theorem ok46 : FnOK Go.Proofs.Try.prog 46 af46 := ⟨Go.Proofs.Try.f46, Go.Proofs.Try.func46, by kernel_rfl, by kernel_rfl⟩
def af47 : AFn := ⟨16, [.cell 4 (some 2)], .seq (.ops [⟨some 2, .box (.tmp 0), none⟩,
    ⟨some 3, .box (.tmp 1), none⟩,
    ⟨some 4, .alloc [.bool false, .str []], none⟩])
 (.seq (.draw [(⟨some 5, .faddr 0 (.tmp 2), none⟩, 0),
     (⟨some 6, .load none (.tmp 5), none⟩, 1),
     (⟨some 7, .faddr 0 (.tmp 3), none⟩, 0),
     (⟨some 8, .load none (.tmp 7), none⟩, 1),
     (⟨some 9, .bin .neq .bool (.tmp 6) (.tmp 8), none⟩, 0),
     (⟨some 10, .faddr 1 (.tmp 2), none⟩, 0),
     (⟨some 11, .load none (.tmp 10), none⟩, 0),
     (⟨some 12, .faddr 1 (.tmp 3), none⟩, 0),
     (⟨some 13, .load none (.tmp 12), none⟩, 0),
     (⟨some 14, .call (.lit (.fn (.func 72) [] [])) [.tmp 11, .tmp 13], none⟩, 0),
     (⟨some 15, .call (.lit (.fn (.func 71) [] [])) [.tmp 9, .tmp 14], none⟩, 0),
     (⟨none, .store 2 (.tmp 4) (.tmp 15), none⟩, 0)])
  .ret)⟩
theorem ok47 : FnOK Go.Proofs.Try.prog 47 af47 := ⟨Go.Proofs.Try.f47, Go.Proofs.Try.func47, by kernel_rfl, by kernel_rfl⟩
def af48 : AFn := ⟨14, [.cell 2 (some 2)], .seq (.ops [⟨some 2, .alloc [.bool false, .str []], none⟩])
 (.seq (.seq (.ops [⟨some 3, .mov (.tmp 0), none⟩,
      ⟨some 4, .bin .lss .no (.tmp 3) (.lit (.int .i64 0)), none⟩])
   (.cond (.tmp 4) (.seq (.ops [⟨some 5, .mov (.tmp 0), none⟩,
        ⟨some 6, .toInt .u64 (.tmp 5), none⟩,
        ⟨some 7, .un .neg (.tmp 6), none⟩,
        ⟨some 8, .call (.lit (.fn (.func 73) [] [])) [.tmp 7], none⟩,
        ⟨some 9, .build [.bool false, .str []] [(0, (1, .lit (.bool true))), (1, (1, .tmp 8))], none⟩,
        ⟨none, .store 2 (.tmp 2) (.tmp 9), none⟩])
     .ret) .skip))
  (.seq (.ops [⟨some 10, .mov (.tmp 0), none⟩,
      ⟨some 11, .toInt .u64 (.tmp 10), none⟩,
      ⟨some 12, .call (.lit (.fn (.func 73) [] [])) [.tmp 11], none⟩,
      ⟨some 13, .build [.bool false, .str []] [(1, (1, .tmp 12))], none⟩,
      ⟨none, .store 2 (.tmp 2) (.tmp 13), none⟩])
   .ret))⟩
theorem ok48 : FnOK Go.Proofs.Try.prog 48 af48 := ⟨Go.Proofs.Try.f48, Go.Proofs.Try.func48, by kernel_rfl, by kernel_rfl⟩
def af49 : AFn := ⟨36, [.tmp 2, .tmp 3], .seq (.ops [⟨some 1, .box (.tmp 0), none⟩,
    ⟨some 2, .mov (.lit (.int .i64 0)), none⟩,
    ⟨some 3, .mov (.lit (.bool false)), none⟩])
 (.seq (.ops [⟨some 7, .faddr 1 (.tmp 1), none⟩,
     ⟨some 8, .load none (.tmp 7), none⟩,
     ⟨some 9, .call (.lit (.fn (.func 74) [] [])) [.tmp 8], none⟩,
     ⟨some 6, .mov (.tmp 9), none⟩,
     ⟨some 10, .extr 0 (.tmp 6), none⟩,
     ⟨some 11, .extr 1 (.tmp 6), none⟩,
     ⟨some 4, .mov (.tmp 10), none⟩,
     ⟨some 5, .mov (.tmp 11), none⟩])
  (.seq (.block 0 (.seq (.ops [⟨some 13, .mov (.tmp 5), none⟩,
        ⟨some 14, .un .not (.tmp 13), none⟩,
        ⟨some 15, .mov (.tmp 14), none⟩,
        ⟨some 16, .mov (.tmp 4), some (15, false)⟩,
        ⟨some 17, .bin .gtr .no (.tmp 16) (.lit (.int .u64 9223372036854775808)), some (15, false)⟩,
        ⟨some 18, .pick (.tmp 15) (.lit (.bool true)) (.tmp 17), none⟩,
        ⟨some 19, .mov (.tmp 18), none⟩,
        ⟨some 20, .mov (.tmp 4), some (19, false)⟩,
        ⟨some 21, .bin .eql .no (.tmp 20) (.lit (.int .u64 9223372036854775808)), some (19, false)⟩,
        ⟨some 22, .mov (.tmp 21), some (19, false)⟩,
        ⟨some 23, .faddr 0 (.tmp 1), some (22, true)⟩,
        ⟨some 24, .load none (.tmp 23), some (22, true)⟩,
        ⟨some 25, .un .not (.tmp 24), some (22, true)⟩,
        ⟨some 26, .pick (.tmp 22) (.tmp 25) (.lit (.bool false)), some (19, false)⟩,
        ⟨some 27, .pick (.tmp 19) (.lit (.bool true)) (.tmp 26), none⟩,
        ⟨some 12, .mov (.tmp 27), none⟩])
     (.cond (.tmp 12) (.seq (.ops [⟨some 2, .mov (.lit (.int .i64 0)), none⟩,
          ⟨some 3, .mov (.lit (.bool false)), none⟩])
       .ret) (.seq (.ops [⟨some 29, .faddr 0 (.tmp 1), none⟩,
          ⟨some 30, .load none (.tmp 29), none⟩,
          ⟨some 28, .mov (.tmp 30), none⟩])
       (.cond (.tmp 28) (.seq (.ops [⟨some 31, .mov (.tmp 4), none⟩,
            ⟨some 32, .un .neg (.tmp 31), none⟩,
            ⟨some 33, .toInt .i64 (.tmp 32), none⟩,
            ⟨some 2, .mov (.tmp 33), none⟩,
            ⟨some 3, .mov (.lit (.bool true)), none⟩])
         .ret) .skip)))))
   (.seq (.ops [⟨some 34, .mov (.tmp 4), none⟩,
       ⟨some 35, .toInt .i64 (.tmp 34), none⟩,
       ⟨some 2, .mov (.tmp 35), none⟩,
       ⟨some 3, .mov (.lit (.bool true)), none⟩])
    .ret)))⟩
theorem ok49 : FnOK Go.Proofs.Try.prog 49 af49 := ⟨Go.Proofs.Try.f49, Go.Proofs.Try.func49, by kernel_rfl, by kernel_rfl⟩
def af50 : AFn := ⟨14, [.tmp 2], .seq (.ops [⟨some 2, .mov (.lit (.int .i64 0)), none⟩])
 (.seq (.ops [⟨some 3, .mov (.lit (.int .i64 0)), none⟩])
  (.seq (.block 0 (.loop (.seq (.seq (.ops [⟨some 4, .mov (.tmp 3), none⟩,
          ⟨some 5, .bin .add .no (.tmp 4) (.lit (.int .i64 1)), none⟩,
          ⟨some 6, .mov (.tmp 3), none⟩,
          ⟨some 7, .bin .add .no (.tmp 6) (.lit (.int .i64 1)), none⟩,
          ⟨some 8, .bin .mul .no (.tmp 5) (.tmp 7), none⟩,
          ⟨some 9, .mov (.tmp 0), none⟩,
          ⟨some 10, .bin .leq .no (.tmp 8) (.tmp 9), none⟩])
       (.cond (.tmp 10) .skip (.exit 0)))
      (.block 1 (.ops [⟨some 11, .mov (.tmp 3), none⟩,
          ⟨some 12, .bin .add .no (.tmp 11) (.lit (.int .i64 1)), none⟩,
          ⟨some 3, .mov (.tmp 12), none⟩])))))
   (.seq (.ops [⟨some 13, .mov (.tmp 3), none⟩,
       ⟨some 2, .mov (.tmp 13), none⟩])
    .ret)))⟩
theorem ok50 : FnOK Go.Proofs.Try.prog 50 af50 := ⟨Go.Proofs.Try.f50, Go.Proofs.Try.func50, by kernel_rfl, by kernel_rfl⟩
def af51 : AFn := ⟨16, [.cell 2 (some 2)], .seq (.ops [⟨some 2, .alloc [.bool false, .str []], none⟩])
 (.seq (.seq (.ops [⟨some 3, .mov (.tmp 0), none⟩,
      ⟨some 4, .bin .lss .no (.tmp 3) (.lit (.int .i64 0)), none⟩])
   (.cond (.tmp 4) (.seq (.ops [⟨some 5, .mov (.tmp 0), none⟩,
        ⟨some 6, .bin .add .no (.tmp 5) (.lit (.int .i64 1)), none⟩,
        ⟨some 7, .un .neg (.tmp 6), none⟩,
        ⟨some 8, .toInt .u64 (.tmp 7), none⟩,
        ⟨some 9, .bin .add .no (.tmp 8) (.lit (.int .u64 1)), none⟩,
        ⟨some 10, .call (.lit (.fn (.func 75) [] [])) [.tmp 9], none⟩,
        ⟨some 11, .build [.bool false, .str []] [(0, (1, .lit (.bool true))), (1, (1, .tmp 10))], none⟩,
        ⟨none, .store 2 (.tmp 2) (.tmp 11), none⟩])
     .ret) .skip))
  (.seq (.ops [⟨some 12, .mov (.tmp 0), none⟩,
      ⟨some 13, .toInt .u64 (.tmp 12), none⟩,
      ⟨some 14, .call (.lit (.fn (.func 75) [] [])) [.tmp 13], none⟩,
      ⟨some 15, .build [.bool false, .str []] [(1, (1, .tmp 14))], none⟩,
      ⟨none, .store 2 (.tmp 2) (.tmp 15), none⟩])
   .ret))⟩
theorem ok51 : FnOK Go.Proofs.Try.prog 51 af51 := ⟨Go.Proofs.Try.f51, Go.Proofs.Try.func51, by kernel_rfl, by kernel_rfl⟩
def af52 : AFn := ⟨40, [.cell 4 (some 2)], .seq (.ops [⟨some 2, .box (.tmp 0), none⟩,
    ⟨some 3, .box (.tmp 1), none⟩,
    ⟨some 4, .alloc [.bool false, .str []], none⟩])
 (.seq (.seq (.ops [⟨some 5, .faddr 0 (.tmp 2), none⟩,
      ⟨some 6, .load none (.tmp 5), none⟩,
      ⟨some 7, .faddr 0 (.tmp 3), none⟩,
      ⟨some 8, .load none (.tmp 7), none⟩,
      ⟨some 9, .bin .eql .bool (.tmp 6) (.tmp 8), none⟩])
   (.cond (.tmp 9) (.seq (.draw [(⟨some 10, .faddr 0 (.tmp 2), none⟩, 0),
        (⟨some 11, .load none (.tmp 10), none⟩, 1),
        (⟨some 12, .faddr 1 (.tmp 2), none⟩, 0),
        (⟨some 13, .load none (.tmp 12), none⟩, 0),
        (⟨some 14, .faddr 1 (.tmp 3), none⟩, 0),
        (⟨some 15, .load none (.tmp 14), none⟩, 0),
        (⟨some 16, .call (.lit (.fn (.func 77) [] [])) [.tmp 13, .tmp 15], none⟩, 0),
        (⟨some 17, .call (.lit (.fn (.func 76) [] [])) [.tmp 11, .tmp 16], none⟩, 0),
        (⟨none, .store 2 (.tmp 4) (.tmp 17), none⟩, 0)])
     .ret) .skip))
  (.seq (.seq (.ops [⟨some 18, .faddr 1 (.tmp 2), none⟩,
       ⟨some 19, .load none (.tmp 18), none⟩,
       ⟨some 20, .faddr 1 (.tmp 3), none⟩,
       ⟨some 21, .load none (.tmp 20), none⟩,
       ⟨some 22, .call (.lit (.fn (.func 78) [] [])) [.tmp 19, .tmp 21], none⟩,
       ⟨some 23, .bin .geq .no (.tmp 22) (.lit (.int .i64 0)), none⟩])
    (.cond (.tmp 23) (.seq (.draw [(⟨some 24, .faddr 0 (.tmp 2), none⟩, 0),
         (⟨some 25, .load none (.tmp 24), none⟩, 1),
         (⟨some 26, .faddr 1 (.tmp 2), none⟩, 0),
         (⟨some 27, .load none (.tmp 26), none⟩, 0),
         (⟨some 28, .faddr 1 (.tmp 3), none⟩, 0),
         (⟨some 29, .load none (.tmp 28), none⟩, 0),
         (⟨some 30, .call (.lit (.fn (.func 79) [] [])) [.tmp 27, .tmp 29], none⟩, 0),
         (⟨some 31, .call (.lit (.fn (.func 76) [] [])) [.tmp 25, .tmp 30], none⟩, 0),
         (⟨none, .store 2 (.tmp 4) (.tmp 31), none⟩, 0)])
      .ret) .skip))
   (.seq (.draw [(⟨some 32, .faddr 0 (.tmp 3), none⟩, 0),
       (⟨some 33, .load none (.tmp 32), none⟩, 1),
       (⟨some 34, .faddr 1 (.tmp 3), none⟩, 0),
       (⟨some 35, .load none (.tmp 34), none⟩, 0),
       (⟨some 36, .faddr 1 (.tmp 2), none⟩, 0),
       (⟨some 37, .load none (.tmp 36), none⟩, 0),
       (⟨some 38, .call (.lit (.fn (.func 79) [] [])) [.tmp 35, .tmp 37], none⟩, 0),
       (⟨some 39, .call (.lit (.fn (.func 76) [] [])) [.tmp 33, .tmp 38], none⟩, 0),
       (⟨none, .store 2 (.tmp 4) (.tmp 39), none⟩, 0)])
    .ret)))⟩
theorem ok52 : FnOK Go.Proofs.Try.prog 52 af52 := ⟨Go.Proofs.Try.f52, Go.Proofs.Try.func52, by kernel_rfl, by kernel_rfl⟩
def af53 : AFn := ⟨16, [.cell 4 (some 2)], .seq (.ops [⟨some 2, .box (.tmp 0), none⟩,
    ⟨some 3, .box (.tmp 1), none⟩,
    ⟨some 4, .alloc [.bool false, .str []], none⟩])
 (.seq (.draw [(⟨some 5, .faddr 0 (.tmp 2), none⟩, 0),
     (⟨some 6, .load none (.tmp 5), none⟩, 1),
     (⟨some 7, .faddr 0 (.tmp 3), none⟩, 0),
     (⟨some 8, .load none (.tmp 7), none⟩, 1),
     (⟨some 9, .bin .neq .bool (.tmp 6) (.tmp 8), none⟩, 0),
     (⟨some 10, .faddr 1 (.tmp 2), none⟩, 0),
     (⟨some 11, .load none (.tmp 10), none⟩, 0),
     (⟨some 12, .faddr 1 (.tmp 3), none⟩, 0),
     (⟨some 13, .load none (.tmp 12), none⟩, 0),
     (⟨some 14, .call (.lit (.fn (.func 80) [] [])) [.tmp 11, .tmp 13], none⟩, 0),
     (⟨some 15, .call (.lit (.fn (.func 76) [] [])) [.tmp 9, .tmp 14], none⟩, 0),
     (⟨none, .store 2 (.tmp 4) (.tmp 15), none⟩, 0)])
  .ret)⟩
theorem ok53 : FnOK Go.Proofs.Try.prog 53 af53 := ⟨Go.Proofs.Try.f53, Go.Proofs.Try.func53, by kernel_rfl, by kernel_rfl⟩
def af54 : AFn := ⟨39, [.tmp 2], .seq (.ops [⟨some 1, .box (.tmp 0), none⟩,
    ⟨some 2, .mov (.lit (.bool false)), none⟩])
 (.seq (.ops [⟨some 4, .faddr 1 (.tmp 1), none⟩,
     ⟨some 5, .load none (.tmp 4), none⟩,
     ⟨some 6, .faddr 1 (.tmp 1), none⟩,
     ⟨some 7, .load none (.tmp 6), none⟩,
     ⟨some 8, .un .neg (.tmp 7), none⟩,
     ⟨some 9, .mx [.tmp 5, .tmp 8], none⟩,
     ⟨some 3, .mov (.tmp 9), none⟩])
  (.seq (.ops [⟨some 10, .mov (.tmp 3), none⟩,
      ⟨some 11, .faddr 0 (.tmp 1), none⟩,
      ⟨some 12, .load none (.tmp 11), none⟩,
      ⟨some 13, .bin .leq .no (.tmp 10) (.tmp 12), none⟩,
      ⟨some 14, .mov (.tmp 13), none⟩,
      ⟨some 15, .faddr 0 (.tmp 1), some (14, true)⟩,
      ⟨some 16, .load none (.tmp 15), some (14, true)⟩,
      ⟨some 17, .faddr 2 (.tmp 1), some (14, true)⟩,
      ⟨some 18, .load none (.tmp 17), some (14, true)⟩,
      ⟨some 19, .bin .leq .no (.tmp 16) (.tmp 18), some (14, true)⟩,
      ⟨some 20, .pick (.tmp 14) (.tmp 19) (.lit (.bool false)), none⟩,
      ⟨some 21, .mov (.tmp 20), none⟩,
      ⟨some 22, .faddr 1 (.tmp 1), some (21, true)⟩,
      ⟨some 23, .load none (.tmp 22), some (21, true)⟩,
      ⟨some 24, .bin .geq .no (.tmp 23) (.lit (.int .i64 0)), some (21, true)⟩,
      ⟨some 25, .mov (.tmp 24), some (21, true)⟩,
      ⟨some 26, .mov (.tmp 3), some (25, false)⟩,
      ⟨some 27, .faddr 0 (.tmp 1), some (25, false)⟩,
      ⟨some 28, .load none (.tmp 27), some (25, false)⟩,
      ⟨some 29, .bin .lss .no (.tmp 26) (.tmp 28), some (25, false)⟩,
      ⟨some 30, .mov (.tmp 29), some (25, false)⟩,
      ⟨some 31, .faddr 0 (.tmp 1), some (30, true)⟩,
      ⟨some 32, .load none (.tmp 31), some (30, true)⟩,
      ⟨some 33, .faddr 2 (.tmp 1), some (30, true)⟩,
      ⟨some 34, .load none (.tmp 33), some (30, true)⟩,
      ⟨some 35, .bin .lss .no (.tmp 32) (.tmp 34), some (30, true)⟩,
      ⟨some 36, .pick (.tmp 30) (.tmp 35) (.lit (.bool false)), some (25, false)⟩,
      ⟨some 37, .pick (.tmp 25) (.lit (.bool true)) (.tmp 36), some (21, true)⟩,
      ⟨some 38, .pick (.tmp 21) (.tmp 37) (.lit (.bool false)), none⟩,
      ⟨some 2, .mov (.tmp 38), none⟩])
   .ret))⟩
theorem ok54 : FnOK Go.Proofs.Try.prog 54 af54 := ⟨Go.Proofs.Try.f54, Go.Proofs.Try.func54, by kernel_rfl, by kernel_rfl⟩
def af55 : AFn := ⟨15, [.tmp 4], .seq (.ops [⟨some 4, .mov (.lit (.int .i64 0)), none⟩])
 (.seq (.block 0 (.loop (.seq (.seq (.ops [⟨some 5, .mov (.tmp 1), none⟩,
         ⟨some 6, .bin .neq .no (.tmp 5) (.lit (.int .i64 0)), none⟩])
      (.cond (.tmp 6) .skip (.exit 0)))
     (.block 1 (.draw [(⟨some 7, .mov (.tmp 1), none⟩, 0),
         (⟨some 8, .mov (.tmp 0), none⟩, 0),
         (⟨some 9, .mov (.tmp 1), none⟩, 0),
         (⟨some 10, .bin .rem .no (.tmp 8) (.tmp 9), none⟩, 0),
         (⟨some 0, .mov (.tmp 7), none⟩, 0),
         (⟨some 1, .mov (.tmp 10), none⟩, 0)])))))
  (.seq (.ops [⟨some 11, .mov (.tmp 0), none⟩,
      ⟨some 12, .mov (.tmp 0), none⟩,
      ⟨some 13, .un .neg (.tmp 12), none⟩,
      ⟨some 14, .mx [.tmp 11, .tmp 13], none⟩,
      ⟨some 4, .mov (.tmp 14), none⟩])
   .ret))⟩
theorem ok55 : FnOK Go.Proofs.Try.prog 55 af55 := ⟨Go.Proofs.Try.f55, Go.Proofs.Try.func55, by kernel_rfl, by kernel_rfl⟩
def af56 : AFn := ⟨14, [], .seq (.ops [⟨some 5, .mov (.tmp 0), none⟩,
    ⟨some 6, .len 1 (.tmp 5), none⟩,
    ⟨some 4, .mov (.tmp 6), none⟩])
 (.ops [⟨some 7, .mov (.tmp 0), none⟩,
    ⟨some 8, .mov (.tmp 4), none⟩,
    ⟨some 9, .mov (.tmp 4), none⟩,
    ⟨some 10, .toInt .u64 (.tmp 9), none⟩,
    ⟨some 11, .call (.lit (.fn (.func 82) [] [])) [.tmp 10], none⟩,
    ⟨some 12, .mov (.tmp 1), none⟩,
    ⟨some 13, .call (.lit (.fn (.func 81) [] [])) [.tmp 7, .lit (.int .i64 0), .tmp 8, .tmp 11, .tmp 12], none⟩])⟩
theorem ok56 : FnOK Go.Proofs.Try.prog 56 af56 := ⟨Go.Proofs.Try.f56, Go.Proofs.Try.func56, by kernel_rfl, by kernel_rfl⟩
def af57 : AFn := ⟨30, [.tmp 4], .seq (.ops [⟨some 2, .box (.tmp 0), none⟩,
    ⟨some 3, .box (.tmp 1), none⟩,
    ⟨some 4, .mov (.lit (.int .i64 0)), none⟩])
 (.seq (.seq (.ops [⟨some 5, .faddr 0 (.tmp 2), none⟩,
      ⟨some 6, .load none (.tmp 5), none⟩,
      ⟨some 7, .faddr 0 (.tmp 3), none⟩,
      ⟨some 8, .load none (.tmp 7), none⟩,
      ⟨some 9, .bin .neq .no (.tmp 6) (.tmp 8), none⟩])
   (.cond (.tmp 9) (.seq (.ops [⟨some 10, .faddr 0 (.tmp 2), none⟩,
        ⟨some 11, .load none (.tmp 10), none⟩,
        ⟨some 12, .faddr 0 (.tmp 3), none⟩,
        ⟨some 13, .load none (.tmp 12), none⟩,
        ⟨some 14, .bin .sub .no (.tmp 11) (.tmp 13), none⟩,
        ⟨some 4, .mov (.tmp 14), none⟩])
     .ret) .skip))
  (.seq (.seq (.ops [⟨some 15, .faddr 1 (.tmp 2), none⟩,
       ⟨some 16, .load none (.tmp 15), none⟩,
       ⟨some 17, .faddr 1 (.tmp 3), none⟩,
       ⟨some 18, .load none (.tmp 17), none⟩,
       ⟨some 19, .bin .neq .no (.tmp 16) (.tmp 18), none⟩])
    (.cond (.tmp 19) (.seq (.ops [⟨some 20, .faddr 1 (.tmp 2), none⟩,
         ⟨some 21, .load none (.tmp 20), none⟩,
         ⟨some 22, .faddr 1 (.tmp 3), none⟩,
         ⟨some 23, .load none (.tmp 22), none⟩,
         ⟨some 24, .bin .sub .no (.tmp 21) (.tmp 23), none⟩,
         ⟨some 4, .mov (.tmp 24), none⟩])
      .ret) .skip))
   (.seq (.ops [⟨some 25, .faddr 2 (.tmp 2), none⟩,
       ⟨some 26, .load none (.tmp 25), none⟩,
       ⟨some 27, .faddr 2 (.tmp 3), none⟩,
       ⟨some 28, .load none (.tmp 27), none⟩,
       ⟨some 29, .bin .sub .no (.tmp 26) (.tmp 28), none⟩,
       ⟨some 4, .mov (.tmp 29), none⟩])
    .ret)))⟩
theorem ok57 : FnOK Go.Proofs.Try.prog 57 af57 := ⟨Go.Proofs.Try.f57, Go.Proofs.Try.func57, by kernel_rfl, by kernel_rfl⟩
def af58 : AFn := ⟨15, [.tmp 6], .seq (.ops [⟨some 6, .mov (.lit (.int .i64 0)), none⟩])
 (.seq (.ops [⟨some 7, .mov (.tmp 0), none⟩,
     ⟨some 8, .call (.lit (.fn (.func 44) [] [])) [.tmp 7], none⟩,
     ⟨some 9, .mov (.tmp 1), none⟩,
     ⟨some 10, .call (.lit (.fn (.func 44) [] [])) [.tmp 9], none⟩,
     ⟨some 11, .call (.lit (.fn (.func 32) [] [])) [.tmp 8, .tmp 10], none⟩,
     ⟨some 12, .mov (.tmp 2), none⟩,
     ⟨some 13, .call (.lit (.fn (.func 44) [] [])) [.tmp 12], none⟩,
     ⟨some 14, .call (.lit (.fn (.func 32) [] [])) [.tmp 11, .tmp 13], none⟩,
     ⟨some 6, .mov (.tmp 14), none⟩])
  .ret)⟩
theorem ok58 : FnOK Go.Proofs.Try.prog 58 af58 := ⟨Go.Proofs.Try.f58, Go.Proofs.Try.func58, by kernel_rfl, by kernel_rfl⟩
def af59 : AFn := ⟨116, [.cell 2 (some 3)], .seq (.ops [⟨some 1, .box (.tmp 0), none⟩,
    ⟨some 2, .alloc [.int .i64 0, .int .i64 0, .int .i64 0], none⟩])
 (.seq (.ops [⟨some 3, .mov (.lit (.int .i64 0)), none⟩])
  (.seq (.block 0 (.loop (.seq (.seq (.ops [⟨some 5, .faddr 1 (.tmp 1), none⟩,
          ⟨some 6, .load none (.tmp 5), none⟩,
          ⟨some 7, .faddr 0 (.tmp 1), none⟩,
          ⟨some 8, .load none (.tmp 7), none⟩,
          ⟨some 9, .bin .mul .no (.lit (.int .i64 2)) (.tmp 8), none⟩,
          ⟨some 10, .mov (.tmp 3), none⟩,
          ⟨some 11, .bin .mul .no (.tmp 9) (.tmp 10), none⟩,
          ⟨some 12, .bin .add .no (.tmp 6) (.tmp 11), none⟩,
          ⟨some 13, .faddr 0 (.tmp 1), none⟩,
          ⟨some 14, .load none (.tmp 13), none⟩,
          ⟨some 15, .bin .gtr .no (.tmp 12) (.tmp 14), none⟩])
       (.cond (.tmp 15) .skip (.exit 0)))
      (.block 1 (.ops [⟨some 16, .mov (.tmp 3), none⟩,
          ⟨some 17, .faddr 1 (.tmp 1), none⟩,
          ⟨some 18, .load none (.tmp 17), none⟩,
          ⟨some 19, .faddr 0 (.tmp 1), none⟩,
          ⟨some 20, .load none (.tmp 19), none⟩,
          ⟨some 21, .bin .mul .no (.lit (.int .i64 2)) (.tmp 20), none⟩,
          ⟨some 22, .mov (.tmp 3), none⟩,
          ⟨some 23, .bin .mul .no (.tmp 21) (.tmp 22), none⟩,
          ⟨some 24, .bin .add .no (.tmp 18) (.tmp 23), none⟩,
          ⟨some 25, .faddr 0 (.tmp 1), none⟩,
          ⟨some 26, .load none (.tmp 25), none⟩,
          ⟨some 27, .bin .sub .no (.tmp 24) (.tmp 26), none⟩,
          ⟨some 28, .faddr 0 (.tmp 1), none⟩,
          ⟨some 29, .load none (.tmp 28), none⟩,
          ⟨some 30, .bin .mul .no (.lit (.int .i64 2)) (.tmp 29), none⟩,
          ⟨some 31, .bin .quo .no (.tmp 27) (.tmp 30), none⟩,
          ⟨some 32, .mx [.lit (.int .i64 1), .tmp 31], none⟩,
          ⟨some 33, .bin .sub .no (.tmp 16) (.tmp 32), none⟩,
          ⟨some 3, .mov (.tmp 33), none⟩])))))
   (.seq (.block 2 (.loop (.seq (.seq (.ops [⟨some 34, .faddr 1 (.tmp 1), none⟩,
           ⟨some 35, .load none (.tmp 34), none⟩,
           ⟨some 36, .faddr 0 (.tmp 1), none⟩,
           ⟨some 37, .load none (.tmp 36), none⟩,
           ⟨some 38, .bin .mul .no (.lit (.int .i64 2)) (.tmp 37), none⟩,
           ⟨some 39, .mov (.tmp 3), none⟩,
           ⟨some 40, .bin .mul .no (.tmp 38) (.tmp 39), none⟩,
           ⟨some 41, .bin .add .no (.tmp 35) (.tmp 40), none⟩,
           ⟨some 42, .faddr 0 (.tmp 1), none⟩,
           ⟨some 43, .load none (.tmp 42), none⟩,
           ⟨some 44, .un .neg (.tmp 43), none⟩,
           ⟨some 45, .bin .leq .no (.tmp 41) (.tmp 44), none⟩])
        (.cond (.tmp 45) .skip (.exit 2)))
       (.block 3 (.ops [⟨some 46, .mov (.tmp 3), none⟩,
           ⟨some 47, .faddr 0 (.tmp 1), none⟩,
           ⟨some 48, .load none (.tmp 47), none⟩,
           ⟨some 49, .un .neg (.tmp 48), none⟩,
           ⟨some 50, .faddr 1 (.tmp 1), none⟩,
           ⟨some 51, .load none (.tmp 50), none⟩,
           ⟨some 52, .bin .sub .no (.tmp 49) (.tmp 51), none⟩,
           ⟨some 53, .faddr 0 (.tmp 1), none⟩,
           ⟨some 54, .load none (.tmp 53), none⟩,
           ⟨some 55, .bin .mul .no (.lit (.int .i64 2)) (.tmp 54), none⟩,
           ⟨some 56, .mov (.tmp 3), none⟩,
           ⟨some 57, .bin .mul .no (.tmp 55) (.tmp 56), none⟩,
           ⟨some 58, .bin .sub .no (.tmp 52) (.tmp 57), none⟩,
           ⟨some 59, .faddr 0 (.tmp 1), none⟩,
           ⟨some 60, .load none (.tmp 59), none⟩,
           ⟨some 61, .bin .mul .no (.lit (.int .i64 2)) (.tmp 60), none⟩,
           ⟨some 62, .bin .quo .no (.tmp 58) (.tmp 61), none⟩,
           ⟨some 63, .mx [.lit (.int .i64 1), .tmp 62], none⟩,
           ⟨some 64, .bin .add .no (.tmp 46) (.tmp 63), none⟩,
           ⟨some 3, .mov (.tmp 64), none⟩])))))
    (.seq (.ops [⟨some 65, .faddr 0 (.tmp 1), none⟩,
        ⟨some 66, .load none (.tmp 65), none⟩,
        ⟨some 67, .faddr 1 (.tmp 1), none⟩,
        ⟨some 68, .load none (.tmp 67), none⟩,
        ⟨some 69, .faddr 0 (.tmp 1), none⟩,
        ⟨some 70, .load none (.tmp 69), none⟩,
        ⟨some 71, .bin .mul .no (.lit (.int .i64 2)) (.tmp 70), none⟩,
        ⟨some 72, .mov (.tmp 3), none⟩,
        ⟨some 73, .bin .mul .no (.tmp 71) (.tmp 72), none⟩,
        ⟨some 74, .bin .add .no (.tmp 68) (.tmp 73), none⟩,
        ⟨some 75, .faddr 0 (.tmp 1), none⟩,
        ⟨some 76, .load none (.tmp 75), none⟩,
        ⟨some 77, .mov (.tmp 3), none⟩,
        ⟨some 78, .bin .mul .no (.tmp 76) (.tmp 77), none⟩,
        ⟨some 79, .mov (.tmp 3), none⟩,
        ⟨some 80, .bin .mul .no (.tmp 78) (.tmp 79), none⟩,
        ⟨some 81, .faddr 1 (.tmp 1), none⟩,
        ⟨some 82, .load none (.tmp 81), none⟩,
        ⟨some 83, .mov (.tmp 3), none⟩,
        ⟨some 84, .bin .mul .no (.tmp 82) (.tmp 83), none⟩,
        ⟨some 85, .bin .add .no (.tmp 80) (.tmp 84), none⟩,
        ⟨some 86, .faddr 2 (.tmp 1), none⟩,
        ⟨some 87, .load none (.tmp 86), none⟩,
        ⟨some 88, .bin .add .no (.tmp 85) (.tmp 87), none⟩,
        ⟨some 89, .build [.int .i64 0, .int .i64 0, .int .i64 0] [(0, (1, .tmp 66)), (1, (1, .tmp 74)), (2, (1, .tmp 88))], none⟩,
        ⟨some 4, .alloc [.int .i64 0, .int .i64 0, .int .i64 0], none⟩,
        ⟨none, .store 3 (.tmp 4) (.tmp 89), none⟩])
     (.seq (.seq (.ops [⟨some 90, .faddr 0 (.tmp 4), none⟩,
          ⟨some 91, .load none (.tmp 90), none⟩,
          ⟨some 92, .faddr 2 (.tmp 4), none⟩,
          ⟨some 93, .load none (.tmp 92), none⟩,
          ⟨some 94, .bin .gtr .no (.tmp 91) (.tmp 93), none⟩,
          ⟨some 95, .mov (.tmp 94), none⟩,
          ⟨some 96, .faddr 0 (.tmp 4), some (95, false)⟩,
          ⟨some 97, .load none (.tmp 96), some (95, false)⟩,
          ⟨some 98, .faddr 2 (.tmp 4), some (95, false)⟩,
          ⟨some 99, .load none (.tmp 98), some (95, false)⟩,
          ⟨some 100, .bin .eql .no (.tmp 97) (.tmp 99), some (95, false)⟩,
          ⟨some 101, .mov (.tmp 100), some (95, false)⟩,
          ⟨some 102, .faddr 1 (.tmp 4), some (101, true)⟩,
          ⟨some 103, .load none (.tmp 102), some (101, true)⟩,
          ⟨some 104, .bin .lss .no (.tmp 103) (.lit (.int .i64 0)), some (101, true)⟩,
          ⟨some 105, .pick (.tmp 101) (.tmp 104) (.lit (.bool false)), some (95, false)⟩,
          ⟨some 106, .pick (.tmp 95) (.lit (.bool true)) (.tmp 105), none⟩])
       (.cond (.tmp 106) (.ops [⟨some 107, .faddr 2 (.tmp 4), none⟩,
           ⟨some 108, .load none (.tmp 107), none⟩,
           ⟨some 109, .faddr 1 (.tmp 4), none⟩,
           ⟨some 110, .load none (.tmp 109), none⟩,
           ⟨some 111, .un .neg (.tmp 110), none⟩,
           ⟨some 112, .faddr 0 (.tmp 4), none⟩,
           ⟨some 113, .load none (.tmp 112), none⟩,
           ⟨some 114, .build [.int .i64 0, .int .i64 0, .int .i64 0] [(0, (1, .tmp 108)), (1, (1, .tmp 111)), (2, (1, .tmp 113))], none⟩,
           ⟨none, .store 3 (.tmp 4) (.tmp 114), none⟩]) .skip))
      (.seq (.ops [⟨some 115, .load (some 3) (.tmp 4), none⟩,
          ⟨none, .store 3 (.tmp 2) (.tmp 115), none⟩])
       .ret))))))⟩
theorem ok59 : FnOK Go.Proofs.Try.prog 59 af59 := ⟨Go.Proofs.Try.f59, Go.Proofs.Try.func59, by kernel_rfl, by kernel_rfl⟩
def af60 : AFn := ⟨12, [.tmp 4], .seq (.ops [⟨some 4, .mov (.lit (.int .i64 0)), none⟩])
 (.seq (.ops [⟨some 5, .mov (.tmp 0), none⟩,
     ⟨some 6, .mov (.tmp 0), none⟩,
     ⟨some 7, .mov (.tmp 1), none⟩,
     ⟨some 8, .call (.lit (.fn (.func 36) [] [])) [.tmp 6, .tmp 7], none⟩,
     ⟨some 9, .bin .sub .no (.tmp 5) (.tmp 8), none⟩,
     ⟨some 10, .mov (.tmp 1), none⟩,
     ⟨some 11, .bin .quo .no (.tmp 9) (.tmp 10), none⟩,
     ⟨some 4, .mov (.tmp 11), none⟩])
  .ret)⟩
theorem ok60 : FnOK Go.Proofs.Try.prog 60 af60 := ⟨Go.Proofs.Try.f60, Go.Proofs.Try.func60, by kernel_rfl, by kernel_rfl⟩
def af61 : AFn := ⟨16, [.tmp 2], .seq (.ops [⟨some 2, .mov (.lit (.int .i64 0)), none⟩])
 (.seq (.ops [⟨some 6, .mov (.tmp 0), none⟩,
     ⟨some 7, .call (.lit (.fn (.func 83) [] [])) [.tmp 6], none⟩,
     ⟨some 5, .mov (.tmp 7), none⟩,
     ⟨some 8, .extr 0 (.tmp 5), none⟩,
     ⟨some 9, .extr 1 (.tmp 5), none⟩,
     ⟨some 3, .mov (.tmp 8), none⟩,
     ⟨some 4, .mov (.tmp 9), none⟩])
  (.seq (.seq (.ops [⟨some 10, .mov (.tmp 4), none⟩,
       ⟨some 11, .bin .neq .no (.tmp 10) (.lit (.int .i64 0)), none⟩,
       ⟨some 12, .mov (.tmp 11), none⟩,
       ⟨some 13, .mov (.tmp 3), some (12, false)⟩,
       ⟨some 14, .un .not (.tmp 13), some (12, false)⟩,
       ⟨some 15, .pick (.tmp 12) (.lit (.bool true)) (.tmp 14), none⟩])
    (.cond (.tmp 15) (.seq (.ops [⟨some 2, .mov (.lit (.int .i64 7)), none⟩])
      .ret) .skip))
   (.seq (.ops [⟨some 2, .mov (.lit (.int .i64 0)), none⟩])
    .ret)))⟩
theorem ok61 : FnOK Go.Proofs.Try.prog 61 af61 := ⟨Go.Proofs.Try.f61, Go.Proofs.Try.func61, by kernel_rfl, by kernel_rfl⟩
def af62 : AFn := ⟨14, [.tmp 2], .seq (.ops [⟨some 2, .mov (.lit (.int .i64 0)), none⟩])
 (.seq (.ops [⟨some 3, .mov (.lit (.int .i64 0)), none⟩])
  (.seq (.block 0 (.loop (.seq (.seq (.ops [⟨some 4, .mov (.tmp 3), none⟩,
          ⟨some 5, .bin .add .no (.tmp 4) (.lit (.int .i64 1)), none⟩,
          ⟨some 6, .mov (.tmp 3), none⟩,
          ⟨some 7, .bin .add .no (.tmp 6) (.lit (.int .i64 1)), none⟩,
          ⟨some 8, .bin .mul .no (.tmp 5) (.tmp 7), none⟩,
          ⟨some 9, .mov (.tmp 0), none⟩,
          ⟨some 10, .bin .leq .no (.tmp 8) (.tmp 9), none⟩])
       (.cond (.tmp 10) .skip (.exit 0)))
      (.block 1 (.ops [⟨some 11, .mov (.tmp 3), none⟩,
          ⟨some 12, .bin .add .no (.tmp 11) (.lit (.int .i64 1)), none⟩,
          ⟨some 3, .mov (.tmp 12), none⟩])))))
   (.seq (.ops [⟨some 13, .mov (.tmp 3), none⟩,
       ⟨some 2, .mov (.tmp 13), none⟩])
    .ret)))⟩
theorem ok62 : FnOK Go.Proofs.Try.prog 62 af62 := ⟨Go.Proofs.Try.f62, Go.Proofs.Try.func62, by kernel_rfl, by kernel_rfl⟩
def af63 : AFn := ⟨18, [.tmp 2, .tmp 3], .seq (.ops [⟨some 2, .mov (.lit (.int .i64 0)), none⟩,
    ⟨some 3, .mov (.lit (.bool false)), none⟩])
 (.seq (.ops [⟨some 4, .mov (.lit (.int .i64 0)), none⟩])
  (.seq (.block 0 (.loop (.seq (.seq (.ops [⟨some 5, .mov (.tmp 4), none⟩,
          ⟨some 6, .mov (.tmp 4), none⟩,
          ⟨some 7, .bin .mul .no (.tmp 5) (.tmp 6), none⟩,
          ⟨some 8, .mov (.tmp 0), none⟩,
          ⟨some 9, .bin .lss .no (.tmp 7) (.tmp 8), none⟩])
       (.cond (.tmp 9) .skip (.exit 0)))
      (.block 1 (.ops [⟨some 10, .mov (.tmp 4), none⟩,
          ⟨some 11, .bin .add .no (.tmp 10) (.lit (.int .i64 1)), none⟩,
          ⟨some 4, .mov (.tmp 11), none⟩])))))
   (.seq (.ops [⟨some 12, .mov (.tmp 4), none⟩,
       ⟨some 13, .mov (.tmp 4), none⟩,
       ⟨some 14, .mov (.tmp 4), none⟩,
       ⟨some 15, .bin .mul .no (.tmp 13) (.tmp 14), none⟩,
       ⟨some 16, .mov (.tmp 0), none⟩,
       ⟨some 17, .bin .eql .no (.tmp 15) (.tmp 16), none⟩,
       ⟨some 2, .mov (.tmp 12), none⟩,
       ⟨some 3, .mov (.tmp 17), none⟩])
    .ret)))⟩
theorem ok63 : FnOK Go.Proofs.Try.prog 63 af63 := ⟨Go.Proofs.Try.f63, Go.Proofs.Try.func63, by kernel_rfl, by kernel_rfl⟩
def af64 : AFn := ⟨40, [.tmp 4], .seq (.ops [⟨some 4, .mov (.lit (.int .i64 0)), none⟩])
 (.seq (.seq (.ops [⟨some 8, .mov (.tmp 1), none⟩,
      ⟨some 9, .bin .eql .no (.tmp 8) (.lit (.int .i64 0)), none⟩])
   (.cond (.tmp 9) (.seq (.seq (.ops [⟨some 10, .mov (.tmp 0), none⟩,
         ⟨some 11, .bin .eql .no (.tmp 10) (.lit (.int .i64 1)), none⟩])
      (.cond (.tmp 11) (.seq (.ops [⟨some 4, .mov (.lit (.int .i64 1)), none⟩])
        .ret) .skip))
     (.seq (.ops [⟨some 4, .mov (.lit (.int .i64 0)), none⟩])
      .ret)) .skip))
  (.seq (.ops [⟨some 5, .mov (.lit (.int .i64 1)), none⟩])
   (.seq (.seq (.ops [⟨some 12, .mov (.tmp 1), none⟩,
        ⟨some 13, .bin .lss .no (.tmp 12) (.lit (.int .i64 0)), none⟩])
     (.cond (.tmp 13) (.seq (.ops [⟨some 14, .mov (.tmp 1), none⟩,
          ⟨some 15, .un .neg (.tmp 14), none⟩,
          ⟨some 1, .mov (.tmp 15), none⟩])
       (.seq (.ops [⟨some 16, .mov (.tmp 0), none⟩,
           ⟨some 17, .bin .lss .no (.tmp 16) (.lit (.int .i64 0)), none⟩])
        (.cond (.tmp 17) (.ops [⟨some 5, .mov (.lit (.int .i64 (-1))), none⟩]) .skip))) .skip))
    (.seq (.block 0 (.loop (.seq (.seq (.ops [⟨some 18, .mov (.tmp 1), none⟩,
            ⟨some 19, .bin .rem .no (.tmp 18) (.lit (.int .i64 2)), none⟩,
            ⟨some 20, .bin .eql .no (.tmp 19) (.lit (.int .i64 0)), none⟩])
         (.cond (.tmp 20) .skip (.exit 0)))
        (.block 1 (.seq (.ops [⟨some 21, .mov (.tmp 1), none⟩,
             ⟨some 22, .bin .quo .no (.tmp 21) (.lit (.int .i64 2)), none⟩,
             ⟨some 1, .mov (.tmp 22), none⟩])
          (.seq (.ops [⟨some 23, .mov (.tmp 0), none⟩,
              ⟨some 24, .bin .and .no (.tmp 23) (.lit (.int .i64 7)), none⟩])
           (.block 2 (.seq (.ops [⟨some 26, .bin .eql .no (.tmp 24) (.lit (.int .i64 1)), none⟩,
                ⟨some 25, .mov (.tmp 26), none⟩])
             (.cond (.tmp 25) .skip (.seq (.ops [⟨some 28, .bin .eql .no (.tmp 24) (.lit (.int .i64 5)), none⟩,
                  ⟨some 27, .mov (.tmp 28), none⟩])
               (.cond (.tmp 27) (.ops [⟨some 29, .mov (.tmp 5), none⟩,
                   ⟨some 30, .un .neg (.tmp 29), none⟩,
                   ⟨some 5, .mov (.tmp 30), none⟩]) (.seq (.ops [⟨some 4, .mov (.lit (.int .i64 0)), none⟩])
                 .ret))))))))))))
     (.seq (.ops [⟨some 32, .mov (.tmp 0), none⟩,
         ⟨some 33, .mov (.tmp 1), none⟩,
         ⟨some 34, .call (.lit (.fn (.func 84) [] [])) [.tmp 32, .tmp 33], none⟩,
         ⟨some 31, .mov (.tmp 34), none⟩,
         ⟨some 35, .extr 0 (.tmp 31), none⟩,
         ⟨some 36, .extr 1 (.tmp 31), none⟩,
         ⟨some 6, .mov (.tmp 35), none⟩,
         ⟨some 7, .mov (.tmp 36), none⟩])
      (.seq (.ops [⟨some 37, .mov (.tmp 5), none⟩,
          ⟨some 38, .mov (.tmp 6), none⟩,
          ⟨some 39, .bin .mul .no (.tmp 37) (.tmp 38), none⟩,
          ⟨some 4, .mov (.tmp 39), none⟩])
       .ret))))))⟩
theorem ok64 : FnOK Go.Proofs.Try.prog 64 af64 := ⟨Go.Proofs.Try.f64, Go.Proofs.Try.func64, by kernel_rfl, by kernel_rfl⟩
def af65 : AFn := ⟨34, [.tmp 2], .seq (.ops [⟨some 2, .mov (.lit .nils), none⟩])
 (.seq (.ops [⟨some 3, .mov (.lit .nils), none⟩])
  (.seq (.seq (.ops [⟨some 4, .mov (.lit (.int .i64 2)), none⟩])
    (.block 0 (.loop (.seq (.seq (.ops [⟨some 6, .mov (.tmp 0), none⟩,
           ⟨some 7, .bin .gtr .no (.tmp 6) (.lit (.int .i64 1)), none⟩])
        (.cond (.tmp 7) .skip (.exit 0)))
       (.seq (.block 1 (.seq (.seq (.ops [⟨some 10, .mov (.tmp 4), none⟩,
              ⟨some 11, .mov (.tmp 4), none⟩,
              ⟨some 12, .bin .mul .no (.tmp 10) (.tmp 11), none⟩,
              ⟨some 13, .mov (.tmp 0), none⟩,
              ⟨some 14, .bin .gtr .no (.tmp 12) (.tmp 13), none⟩])
           (.cond (.tmp 14) (.ops [⟨some 15, .mov (.tmp 0), none⟩,
               ⟨some 4, .mov (.tmp 15), none⟩]) .skip))
          (.seq (.ops [⟨some 5, .mov (.lit (.int .i64 0)), none⟩])
           (.seq (.block 2 (.loop (.seq (.seq (.ops [⟨some 16, .mov (.tmp 0), none⟩,
                   ⟨some 17, .mov (.tmp 4), none⟩,
                   ⟨some 18, .bin .rem .no (.tmp 16) (.tmp 17), none⟩,
                   ⟨some 19, .bin .eql .no (.tmp 18) (.lit (.int .i64 0)), none⟩])
                (.cond (.tmp 19) .skip (.exit 2)))
               (.block 3 (.seq (.ops [⟨some 20, .mov (.tmp 0), none⟩,
                    ⟨some 21, .mov (.tmp 4), none⟩,
                    ⟨some 22, .bin .quo .no (.tmp 20) (.tmp 21), none⟩,
                    ⟨some 0, .mov (.tmp 22), none⟩])
                 (.ops [⟨some 23, .mov (.tmp 5), none⟩,
                    ⟨some 24, .bin .add .no (.tmp 23) (.lit (.int .i64 1)), none⟩,
                    ⟨some 5, .mov (.tmp 24), none⟩]))))))
            (.seq (.ops [⟨some 25, .mov (.tmp 5), none⟩,
                ⟨some 26, .bin .gtr .no (.tmp 25) (.lit (.int .i64 0)), none⟩])
             (.cond (.tmp 26) (.ops [⟨some 27, .mov (.tmp 3), none⟩,
                 ⟨some 28, .mov (.tmp 4), none⟩,
                 ⟨some 29, .mov (.tmp 5), none⟩,
                 ⟨some 30, .build [.int .i64 0, .int .i64 0] [(0, (1, .tmp 28)), (1, (1, .tmp 29))], none⟩,
                 ⟨some 31, .bslice 1 2 [.int .i64 0, .int .i64 0] [(0, .tmp 30)], none⟩,
                 ⟨some 32, .append 2 16 [.int .i64 0, .int .i64 0] (.tmp 27) (.tmp 31), none⟩,
                 ⟨some 3, .mov (.tmp 32), none⟩]) .skip))))))
        (.ops [⟨some 8, .mov (.tmp 4), none⟩,
           ⟨some 9, .bin .add .no (.tmp 8) (.lit (.int .i64 1)), none⟩,
           ⟨some 4, .mov (.tmp 9), none⟩]))))))
   (.seq (.ops [⟨some 33, .mov (.tmp 3), none⟩,
       ⟨some 2, .mov (.tmp 33), none⟩])
    .ret)))⟩
theorem ok65 : FnOK Go.Proofs.Try.prog 65 af65 := ⟨Go.Proofs.Try.f65, Go.Proofs.Try.func65, by kernel_rfl, by kernel_rfl⟩
def af66 : AFn := ⟨16, [.tmp 4], .seq (.ops [⟨some 4, .mov (.lit (.int .i64 0)), none⟩])
 (.seq (.seq (.ops [⟨some 5, .mov (.tmp 1), none⟩,
      ⟨some 6, .bin .gtr .no (.tmp 5) (.lit (.int .i64 2)), none⟩])
   (.cond (.tmp 6) (.seq (.ops [⟨some 7, .mov (.tmp 0), none⟩,
        ⟨some 8, .mov (.tmp 1), none⟩,
        ⟨some 9, .call (.lit (.fn (.func 85) [] [])) [.tmp 7, .tmp 8], none⟩,
        ⟨some 4, .mov (.tmp 9), none⟩])
     .ret) .skip))
  (.seq (.seq (.ops [⟨some 10, .mov (.tmp 0), none⟩,
       ⟨some 11, .call (.lit (.fn (.func 36) [] [])) [.tmp 10, .lit (.int .i64 8)], none⟩])
    (.block 0 (.seq (.ops [⟨some 13, .bin .eql .no (.tmp 11) (.lit (.int .i64 1)), none⟩,
         ⟨some 12, .mov (.tmp 13), none⟩])
      (.cond (.tmp 12) (.seq (.ops [⟨some 4, .mov (.lit (.int .i64 1)), none⟩])
        .ret) (.seq (.ops [⟨some 15, .bin .eql .no (.tmp 11) (.lit (.int .i64 5)), none⟩,
           ⟨some 14, .mov (.tmp 15), none⟩])
        (.cond (.tmp 14) (.seq (.ops [⟨some 4, .mov (.lit (.int .i64 (-1))), none⟩])
          .ret) .skip))))))
   (.seq (.ops [⟨some 4, .mov (.lit (.int .i64 0)), none⟩])
    .ret)))⟩
theorem ok66 : FnOK Go.Proofs.Try.prog 66 af66 := ⟨Go.Proofs.Try.f66, Go.Proofs.Try.func66, by kernel_rfl, by kernel_rfl⟩
def af67 : AFn := ⟨19, [.tmp 4], .seq (.ops [⟨some 3, .box (.tmp 1), none⟩,
    ⟨some 4, .mov (.lit (.int .i64 0)), none⟩])
 (.seq (.seq (.ops [⟨some 6, .mov (.tmp 0), none⟩,
      ⟨some 7, .len 1 (.tmp 6), none⟩,
      ⟨some 8, .mov (.lit (.int .i64 0)), none⟩])
   (.block 0 (.loop (.seq (.ops [⟨some 9, .bin .lss .no (.tmp 8) (.tmp 7), none⟩])
      (.seq (.cond (.tmp 9) .skip (.exit 0))
       (.seq (.block 1 (.seq (.ops [⟨some 10, .mov (.tmp 8), none⟩,
             ⟨some 5, .mov (.tmp 10), none⟩])
          (.seq (.draw [(⟨some 11, .load (some 3) (.tmp 3), none⟩, 0),
              (⟨some 12, .mov (.tmp 0), none⟩, 0),
              (⟨some 13, .mov (.tmp 5), none⟩, 0),
              (⟨some 14, .iaddr none 3 (.tmp 12) (.tmp 13), none⟩, 0),
              (⟨some 15, .load (some 3) (.tmp 14), none⟩, 0),
              (⟨some 16, .bin .eql (.flat [1, 1, 1]) (.tmp 11) (.tmp 15), none⟩, 0)])
           (.cond (.tmp 16) (.seq (.ops [⟨some 17, .mov (.tmp 5), none⟩,
                ⟨some 4, .mov (.tmp 17), none⟩])
             .ret) .skip))))
        (.ops [⟨some 18, .bin .add .no (.tmp 8) (.lit (.int .i64 1)), none⟩,
           ⟨some 8, .mov (.tmp 18), none⟩])))))))
  (.seq (.ops [⟨some 4, .mov (.lit (.int .i64 (-1))), none⟩])
   .ret))⟩
theorem ok67 : FnOK Go.Proofs.Try.prog 67 af67 := ⟨Go.Proofs.Try.f67, Go.Proofs.Try.func67, by kernel_rfl, by kernel_rfl⟩
def af68 : AFn := ⟨60, [], .seq (.ops [⟨some 10, .load none (.tmp 1), none⟩,
    ⟨some 11, .call (.lit (.fn (.func 62) [] [])) [.tmp 10], none⟩,
    ⟨some 3, .mov (.tmp 11), none⟩])
 (.seq (.ops [⟨some 12, .load none (.tmp 1), none⟩,
     ⟨some 13, .bin .rem .no (.tmp 12) (.lit (.int .i64 2)), none⟩,
     ⟨some 4, .mov (.tmp 13), none⟩,
     ⟨some 5, .mov (.lit (.int .i64 2)), none⟩])
  (.seq (.ops [⟨some 14, .call (.lit (.fn (.func 48) [] [])) [.lit (.int .i64 0)], none⟩,
      ⟨some 15, .call (.lit (.fn (.func 48) [] [])) [.lit (.int .i64 1)], none⟩,
      ⟨some 16, .build [.bool false, .str [], .bool false, .str []] [(0, (2, .tmp 14)), (2, (2, .tmp 15))], none⟩,
      ⟨some 17, .call (.lit (.fn (.func 48) [] [])) [.lit (.int .i64 1)], none⟩,
      ⟨some 18, .call (.lit (.fn (.func 48) [] [])) [.lit (.int .i64 0)], none⟩,
      ⟨some 19, .build [.bool false, .str [], .bool false, .str []] [(0, (2, .tmp 17)), (2, (2, .tmp 18))], none⟩,
      ⟨some 6, .alloc [.bool false, .str [], .bool false, .str []], none⟩,
      ⟨some 7, .alloc [.bool false, .str [], .bool false, .str []], none⟩,
      ⟨none, .store 4 (.tmp 6) (.tmp 16), none⟩,
      ⟨none, .store 4 (.tmp 7) (.tmp 19), none⟩])
   (.block 0 (.loop (.block 1 (.seq (.ops [⟨some 20, .mov (.tmp 4), none⟩,
          ⟨some 21, .mov (.tmp 3), none⟩,
          ⟨some 22, .bin .add .no (.tmp 20) (.tmp 21), none⟩,
          ⟨some 23, .mov (.tmp 5), none⟩,
          ⟨some 24, .bin .quo .no (.tmp 22) (.tmp 23), none⟩,
          ⟨some 8, .mov (.tmp 24), none⟩])
       (.seq (.draw [(⟨some 25, .mov (.tmp 8), none⟩, 0),
           (⟨some 27, .faddr 0 (.tmp 7), none⟩, 0),
           (⟨some 28, .load (some 2) (.tmp 27), none⟩, 1),
           (⟨some 30, .faddr 0 (.tmp 6), none⟩, 0),
           (⟨some 31, .load (some 2) (.tmp 30), none⟩, 2),
           (⟨some 33, .mov (.tmp 8), none⟩, 0),
           (⟨some 35, .faddr 2 (.tmp 7), none⟩, 0),
           (⟨some 36, .load (some 2) (.tmp 35), none⟩, 4),
           (⟨some 38, .faddr 2 (.tmp 6), none⟩, 0),
           (⟨some 39, .load (some 2) (.tmp 38), none⟩, 5),
           (⟨some 9, .alloc [.bool false, .str [], .bool false, .str []], none⟩, 6),
           (⟨some 26, .call (.lit (.fn (.func 48) [] [])) [.tmp 25], none⟩, 0),
           (⟨some 29, .call (.lit (.fn (.func 47) [] [])) [.tmp 26, .tmp 28], none⟩, 0),
           (⟨some 32, .call (.lit (.fn (.func 69) [] [])) [.tmp 29, .tmp 31], none⟩, 0),
           (⟨some 34, .call (.lit (.fn (.func 48) [] [])) [.tmp 33], none⟩, 0),
           (⟨some 37, .call (.lit (.fn (.func 47) [] [])) [.tmp 34, .tmp 36], none⟩, 0),
           (⟨some 40, .call (.lit (.fn (.func 69) [] [])) [.tmp 37, .tmp 39], none⟩, 0),
           (⟨some 41, .build [.bool false, .str [], .bool false, .str []] [(0, (2, .tmp 32)), (2, (2, .tmp 40))], none⟩, 0),
           (⟨none, .store 4 (.tmp 9) (.tmp 41), none⟩, 0)])
        (.seq (.seq (.ops [⟨some 42, .mov (.tmp 0), none⟩,
             ⟨some 43, .load (some 4) (.tmp 9), none⟩,
             ⟨some 44, .call (.tmp 42) [.tmp 43], none⟩,
             ⟨some 45, .un .not (.tmp 44), none⟩])
          (.cond (.tmp 45) .ret .skip))
         (.seq (.draw [(⟨some 46, .load (some 4) (.tmp 7), none⟩, 0),
             (⟨some 47, .load (some 4) (.tmp 9), none⟩, 1),
             (⟨none, .store 4 (.tmp 6) (.tmp 46), none⟩, 0),
             (⟨none, .store 4 (.tmp 7) (.tmp 47), none⟩, 0)])
          (.seq (.ops [⟨some 48, .mov (.tmp 8), none⟩,
              ⟨some 49, .mov (.tmp 5), none⟩,
              ⟨some 50, .bin .mul .no (.tmp 48) (.tmp 49), none⟩,
              ⟨some 51, .mov (.tmp 4), none⟩,
              ⟨some 52, .bin .sub .no (.tmp 50) (.tmp 51), none⟩,
              ⟨some 4, .mov (.tmp 52), none⟩])
           (.ops [⟨some 53, .load none (.tmp 1), none⟩,
              ⟨some 54, .mov (.tmp 4), none⟩,
              ⟨some 55, .mov (.tmp 4), none⟩,
              ⟨some 56, .bin .mul .no (.tmp 54) (.tmp 55), none⟩,
              ⟨some 57, .bin .sub .no (.tmp 53) (.tmp 56), none⟩,
              ⟨some 58, .mov (.tmp 5), none⟩,
              ⟨some 59, .bin .quo .no (.tmp 57) (.tmp 58), none⟩,
              ⟨some 5, .mov (.tmp 59), none⟩])))))))))))⟩
theorem ok68 : FnOK Go.Proofs.Try.prog 68 af68 := ⟨Go.Proofs.Try.f68, Go.Proofs.Try.func68, by kernel_rfl, by kernel_rfl⟩
def af69 : AFn := ⟨42, [.cell 4 (some 2)], .seq (.ops [⟨some 2, .box (.tmp 0), none⟩,
    ⟨some 3, .box (.tmp 1), none⟩,
    ⟨some 4, .alloc [.bool false, .str []], none⟩])
 (.seq (.block 0 (.seq (.ops [⟨some 6, .faddr 0 (.tmp 2), none⟩,
       ⟨some 7, .load none (.tmp 6), none⟩,
       ⟨some 8, .faddr 0 (.tmp 3), none⟩,
       ⟨some 9, .load none (.tmp 8), none⟩,
       ⟨some 10, .bin .eql .bool (.tmp 7) (.tmp 9), none⟩,
       ⟨some 5, .mov (.tmp 10), none⟩])
    (.cond (.tmp 5) (.seq (.draw [(⟨some 11, .faddr 0 (.tmp 2), none⟩, 0),
         (⟨some 12, .load none (.tmp 11), none⟩, 1),
         (⟨some 13, .faddr 1 (.tmp 2), none⟩, 0),
         (⟨some 14, .load none (.tmp 13), none⟩, 0),
         (⟨some 15, .faddr 1 (.tmp 3), none⟩, 0),
         (⟨some 16, .load none (.tmp 15), none⟩, 0),
         (⟨some 17, .call (.lit (.fn (.func 86) [] [])) [.tmp 14, .tmp 16], none⟩, 0),
         (⟨some 18, .call (.lit (.fn (.func 71) [] [])) [.tmp 12, .tmp 17], none⟩, 0),
         (⟨none, .store 2 (.tmp 4) (.tmp 18), none⟩, 0)])
      .ret) (.seq (.ops [⟨some 20, .faddr 1 (.tmp 2), none⟩,
         ⟨some 21, .load none (.tmp 20), none⟩,
         ⟨some 22, .faddr 1 (.tmp 3), none⟩,
         ⟨some 23, .load none (.tmp 22), none⟩,
         ⟨some 24, .call (.lit (.fn (.func 87) [] [])) [.tmp 21, .tmp 23], none⟩,
         ⟨some 25, .bin .lss .no (.tmp 24) (.lit (.int .i64 0)), none⟩,
         ⟨some 19, .mov (.tmp 25), none⟩])
      (.cond (.tmp 19) (.seq (.draw [(⟨some 26, .faddr 0 (.tmp 3), none⟩, 0),
           (⟨some 27, .load none (.tmp 26), none⟩, 1),
           (⟨some 28, .faddr 1 (.tmp 3), none⟩, 0),
           (⟨some 29, .load none (.tmp 28), none⟩, 0),
           (⟨some 30, .faddr 1 (.tmp 2), none⟩, 0),
           (⟨some 31, .load none (.tmp 30), none⟩, 0),
           (⟨some 32, .call (.lit (.fn (.func 88) [] [])) [.tmp 29, .tmp 31], none⟩, 0),
           (⟨some 33, .call (.lit (.fn (.func 71) [] [])) [.tmp 27, .tmp 32], none⟩, 0),
           (⟨none, .store 2 (.tmp 4) (.tmp 33), none⟩, 0)])
        .ret) .skip)))))
  (.seq (.draw [(⟨some 34, .faddr 0 (.tmp 2), none⟩, 0),
      (⟨some 35, .load none (.tmp 34), none⟩, 1),
      (⟨some 36, .faddr 1 (.tmp 2), none⟩, 0),
      (⟨some 37, .load none (.tmp 36), none⟩, 0),
      (⟨some 38, .faddr 1 (.tmp 3), none⟩, 0),
      (⟨some 39, .load none (.tmp 38), none⟩, 0),
      (⟨some 40, .call (.lit (.fn (.func 88) [] [])) [.tmp 37, .tmp 39], none⟩, 0),
      (⟨some 41, .call (.lit (.fn (.func 71) [] [])) [.tmp 35, .tmp 40], none⟩, 0),
      (⟨none, .store 2 (.tmp 4) (.tmp 41), none⟩, 0)])
   .ret))⟩
theorem ok69 : FnOK Go.Proofs.Try.prog 69 af69 := ⟨Go.Proofs.Try.f69, Go.Proofs.Try.func69, by kernel_rfl, by kernel_rfl⟩
def af70 : AFn := ⟨9, [.cell 2 (some 2)], .seq (.ops [⟨some 1, .box (.tmp 0), none⟩,
    ⟨some 2, .alloc [.bool false, .str []], none⟩])
 (.seq (.ops [⟨some 3, .faddr 0 (.tmp 1), none⟩,
     ⟨some 4, .load none (.tmp 3), none⟩,
     ⟨some 5, .un .not (.tmp 4), none⟩,
     ⟨some 6, .faddr 1 (.tmp 1), none⟩,
     ⟨some 7, .load none (.tmp 6), none⟩,
     ⟨some 8, .call (.lit (.fn (.func 71) [] [])) [.tmp 5, .tmp 7], none⟩,
     ⟨none, .store 2 (.tmp 2) (.tmp 8), none⟩])
  .ret)⟩
theorem ok70 : FnOK Go.Proofs.Try.prog 70 af70 := ⟨Go.Proofs.Try.f70, Go.Proofs.Try.func70, by kernel_rfl, by kernel_rfl⟩
def af71 : AFn := ⟨12, [.cell 4 (some 2)], .seq (.ops [⟨some 4, .alloc [.bool false, .str []], none⟩])
 (.seq (.ops [⟨some 5, .mov (.tmp 0), none⟩,
     ⟨some 6, .mov (.tmp 5), none⟩,
     ⟨some 7, .mov (.tmp 1), some (6, true)⟩,
     ⟨some 8, .bin .neq .no (.tmp 7) (.lit (.str [])), some (6, true)⟩,
     ⟨some 9, .pick (.tmp 6) (.tmp 8) (.lit (.bool false)), none⟩,
     ⟨some 10, .mov (.tmp 1), none⟩,
     ⟨some 11, .build [.bool false, .str []] [(0, (1, .tmp 9)), (1, (1, .tmp 10))], none⟩,
     ⟨none, .store 2 (.tmp 4) (.tmp 11), none⟩])
  .ret)⟩
theorem ok71 : FnOK Go.Proofs.Try.prog 71 af71 := ⟨Go.Proofs.Try.f71, Go.Proofs.Try.func71, by kernel_rfl, by kernel_rfl⟩
def af72 : AFn := ⟨11, [.tmp 4], .seq (.ops [⟨some 4, .mov (.lit (.str [])), none⟩])
 (.seq (.ops [⟨some 5, .mov (.tmp 0), none⟩,
     ⟨some 6, .call (.lit (.fn (.func 91) [] [])) [.tmp 5], none⟩,
     ⟨some 7, .mov (.tmp 1), none⟩,
     ⟨some 8, .call (.lit (.fn (.func 91) [] [])) [.tmp 7], none⟩,
     ⟨some 9, .call (.lit (.fn (.func 90) [] [])) [.tmp 6, .tmp 8], none⟩,
     ⟨some 10, .call (.lit (.fn (.func 89) [] [])) [.tmp 9], none⟩,
     ⟨some 4, .mov (.tmp 10), none⟩])
  .ret)⟩
theorem ok72 : FnOK Go.Proofs.Try.prog 72 af72 := ⟨Go.Proofs.Try.f72, Go.Proofs.Try.func72, by kernel_rfl, by kernel_rfl⟩
def af73 : AFn := ⟨6, [.tmp 2], .seq (.ops [⟨some 2, .mov (.lit (.str [])), none⟩])
 (.seq (.ops [⟨some 3, .mov (.tmp 0), none⟩,
     ⟨some 4, .bslice 1 1 [.int .u64 0] [(0, .tmp 3)], none⟩,
     ⟨some 5, .call (.lit (.fn (.func 89) [] [])) [.tmp 4], none⟩,
     ⟨some 2, .mov (.tmp 5), none⟩])
  .ret)⟩
theorem ok73 : FnOK Go.Proofs.Try.prog 73 af73 := ⟨Go.Proofs.Try.f73, Go.Proofs.Try.func73, by kernel_rfl, by kernel_rfl⟩
def af74 : AFn := ⟨16, [.tmp 2, .tmp 3], .seq (.ops [⟨some 2, .mov (.lit (.int .u64 0)), none⟩,
    ⟨some 3, .mov (.lit (.bool false)), none⟩])
 (.seq (.ops [⟨some 5, .mov (.tmp 0), none⟩,
     ⟨some 6, .call (.lit (.fn (.func 91) [] [])) [.tmp 5], none⟩,
     ⟨some 4, .mov (.tmp 6), none⟩])
  (.seq (.seq (.ops [⟨some 7, .mov (.tmp 4), none⟩,
       ⟨some 8, .len 1 (.tmp 7), none⟩,
       ⟨some 9, .bin .gtr .no (.tmp 8) (.lit (.int .i64 1)), none⟩])
    (.cond (.tmp 9) (.seq (.ops [⟨some 2, .mov (.lit (.int .u64 0)), none⟩,
         ⟨some 3, .mov (.lit (.bool false)), none⟩])
      .ret) .skip))
   (.seq (.seq (.ops [⟨some 10, .mov (.tmp 4), none⟩,
        ⟨some 11, .len 1 (.tmp 10), none⟩,
        ⟨some 12, .bin .eql .no (.tmp 11) (.lit (.int .i64 0)), none⟩])
     (.cond (.tmp 12) (.seq (.ops [⟨some 2, .mov (.lit (.int .u64 0)), none⟩,
          ⟨some 3, .mov (.lit (.bool true)), none⟩])
       .ret) .skip))
    (.seq (.ops [⟨some 13, .mov (.tmp 4), none⟩,
        ⟨some 14, .iaddr none 1 (.tmp 13) (.lit (.int .i64 0)), none⟩,
        ⟨some 15, .load none (.tmp 14), none⟩,
        ⟨some 2, .mov (.tmp 15), none⟩,
        ⟨some 3, .mov (.lit (.bool true)), none⟩])
     .ret))))⟩
theorem ok74 : FnOK Go.Proofs.Try.prog 74 af74 := ⟨Go.Proofs.Try.f74, Go.Proofs.Try.func74, by kernel_rfl, by kernel_rfl⟩
def af75 : AFn := ⟨9, [.tmp 2], .seq (.ops [⟨some 2, .mov (.lit (.str [])), none⟩])
 (.seq (.ops [⟨some 3, .mov (.tmp 0), none⟩,
     ⟨some 4, .bin .and .no (.tmp 3) (.lit (.int .u64 4294967295)), none⟩,
     ⟨some 5, .mov (.tmp 0), none⟩,
     ⟨some 6, .bin .shr .no (.tmp 5) (.lit (.int .u64 32)), none⟩,
     ⟨some 7, .bslice 2 1 [.int .u64 0, .int .u64 0] [(0, .tmp 4), (1, .tmp 6)], none⟩,
     ⟨some 8, .call (.lit (.fn (.func 92) [] [])) [.tmp 7], none⟩,
     ⟨some 2, .mov (.tmp 8), none⟩])
  .ret)⟩
theorem ok75 : FnOK Go.Proofs.Try.prog 75 af75 := ⟨Go.Proofs.Try.f75, Go.Proofs.Try.func75, by kernel_rfl, by kernel_rfl⟩
def af76 : AFn := ⟨12, [.cell 4 (some 2)], .seq (.ops [⟨some 4, .alloc [.bool false, .str []], none⟩])
 (.seq (.ops [⟨some 5, .mov (.tmp 0), none⟩,
     ⟨some 6, .mov (.tmp 5), none⟩,
     ⟨some 7, .mov (.tmp 1), some (6, true)⟩,
     ⟨some 8, .bin .neq .no (.tmp 7) (.lit (.str [])), some (6, true)⟩,
     ⟨some 9, .pick (.tmp 6) (.tmp 8) (.lit (.bool false)), none⟩,
     ⟨some 10, .mov (.tmp 1), none⟩,
     ⟨some 11, .build [.bool false, .str []] [(0, (1, .tmp 9)), (1, (1, .tmp 10))], none⟩,
     ⟨none, .store 2 (.tmp 4) (.tmp 11), none⟩])
  .ret)⟩
theorem ok76 : FnOK Go.Proofs.Try.prog 76 af76 := ⟨Go.Proofs.Try.f76, Go.Proofs.Try.func76, by kernel_rfl, by kernel_rfl⟩
def af77 : AFn := ⟨61, [.tmp 4], .seq (.ops [⟨some 4, .mov (.lit (.str [])), none⟩])
 (.seq (.ops [⟨some 11, .mov (.tmp 0), none⟩,
     ⟨some 12, .call (.lit (.fn (.func 93) [] [])) [.tmp 11], none⟩,
     ⟨some 13, .mov (.tmp 1), none⟩,
     ⟨some 14, .call (.lit (.fn (.func 93) [] [])) [.tmp 13], none⟩,
     ⟨some 5, .mov (.tmp 12), none⟩,
     ⟨some 6, .mov (.tmp 14), none⟩])
  (.seq (.ops [⟨some 7, .mov (.lit .nils), none⟩])
   (.seq (.ops [⟨some 8, .mov (.lit (.int .u64 0)), none⟩])
    (.seq (.seq (.ops [⟨some 9, .mov (.lit (.int .i64 0)), none⟩])
      (.block 0 (.loop (.seq (.seq (.ops [⟨some 15, .mov (.tmp 9), none⟩,
             ⟨some 16, .mov (.tmp 5), none⟩,
             ⟨some 17, .len 1 (.tmp 16), none⟩,
             ⟨some 18, .bin .lss .no (.tmp 15) (.tmp 17), none⟩,
             ⟨some 19, .mov (.tmp 18), none⟩,
             ⟨some 20, .mov (.tmp 9), some (19, false)⟩,
             ⟨some 21, .mov (.tmp 6), some (19, false)⟩,
             ⟨some 22, .len 1 (.tmp 21), some (19, false)⟩,
             ⟨some 23, .bin .lss .no (.tmp 20) (.tmp 22), some (19, false)⟩,
             ⟨some 24, .pick (.tmp 19) (.lit (.bool true)) (.tmp 23), none⟩,
             ⟨some 25, .mov (.tmp 24), none⟩,
             ⟨some 26, .mov (.tmp 8), some (25, false)⟩,
             ⟨some 27, .bin .gtr .no (.tmp 26) (.lit (.int .u64 0)), some (25, false)⟩,
             ⟨some 28, .pick (.tmp 25) (.lit (.bool true)) (.tmp 27), none⟩])
          (.cond (.tmp 28) .skip (.exit 0)))
         (.seq (.block 1 (.seq (.ops [⟨some 31, .mov (.tmp 8), none⟩,
               ⟨some 10, .mov (.tmp 31), none⟩])
            (.seq (.seq (.ops [⟨some 32, .mov (.tmp 9), none⟩,
                 ⟨some 33, .mov (.tmp 5), none⟩,
                 ⟨some 34, .len 1 (.tmp 33), none⟩,
                 ⟨some 35, .bin .lss .no (.tmp 32) (.tmp 34), none⟩])
              (.cond (.tmp 35) (.ops [⟨some 36, .mov (.tmp 10), none⟩,
                  ⟨some 37, .mov (.tmp 5), none⟩,
                  ⟨some 38, .mov (.tmp 9), none⟩,
                  ⟨some 39, .iaddr none 1 (.tmp 37) (.tmp 38), none⟩,
                  ⟨some 40, .load none (.tmp 39), none⟩,
                  ⟨some 41, .bin .add .no (.tmp 36) (.tmp 40), none⟩,
                  ⟨some 10, .mov (.tmp 41), none⟩]) .skip))
             (.seq (.seq (.ops [⟨some 42, .mov (.tmp 9), none⟩,
                  ⟨some 43, .mov (.tmp 6), none⟩,
                  ⟨some 44, .len 1 (.tmp 43), none⟩,
                  ⟨some 45, .bin .lss .no (.tmp 42) (.tmp 44), none⟩])
               (.cond (.tmp 45) (.ops [⟨some 46, .mov (.tmp 10), none⟩,
                   ⟨some 47, .mov (.tmp 6), none⟩,
                   ⟨some 48, .mov (.tmp 9), none⟩,
                   ⟨some 49, .iaddr none 1 (.tmp 47) (.tmp 48), none⟩,
                   ⟨some 50, .load none (.tmp 49), none⟩,
                   ⟨some 51, .bin .add .no (.tmp 46) (.tmp 50), none⟩,
                   ⟨some 10, .mov (.tmp 51), none⟩]) .skip))
              (.seq (.ops [⟨some 52, .mov (.tmp 7), none⟩,
                  ⟨some 53, .mov (.tmp 10), none⟩,
                  ⟨some 54, .bin .and .no (.tmp 53) (.lit (.int .u64 4294967295)), none⟩,
                  ⟨some 55, .bslice 1 1 [.int .u64 0] [(0, .tmp 54)], none⟩,
                  ⟨some 56, .append 1 8 [.int .u64 0] (.tmp 52) (.tmp 55), none⟩,
                  ⟨some 7, .mov (.tmp 56), none⟩])
               (.ops [⟨some 57, .mov (.tmp 10), none⟩,
                  ⟨some 58, .bin .shr .no (.tmp 57) (.lit (.int .u64 32)), none⟩,
                  ⟨some 8, .mov (.tmp 58), none⟩]))))))
          (.ops [⟨some 29, .mov (.tmp 9), none⟩,
             ⟨some 30, .bin .add .no (.tmp 29) (.lit (.int .i64 1)), none⟩,
             ⟨some 9, .mov (.tmp 30), none⟩]))))))
     (.seq (.ops [⟨some 59, .mov (.tmp 7), none⟩,
         ⟨some 60, .call (.lit (.fn (.func 92) [] [])) [.tmp 59], none⟩,
         ⟨some 4, .mov (.tmp 60), none⟩])
      .ret)))))⟩
theorem ok77 : FnOK Go.Proofs.Try.prog 77 af77 := ⟨Go.Proofs.Try.f77, Go.Proofs.Try.func77, by kernel_rfl, by kernel_rfl⟩
def af78 : AFn := ⟨27, [.tmp 4], .seq (.ops [⟨some 4, .mov (.lit (.int .i64 0)), none⟩])
 (.seq (.block 0 (.seq (.ops [⟨some 6, .mov (.tmp 0), none⟩,
       ⟨some 7, .len 0 (.tmp 6), none⟩,
       ⟨some 8, .mov (.tmp 1), none⟩,
       ⟨some 9, .len 0 (.tmp 8), none⟩,
       ⟨some 10, .bin .lss .no (.tmp 7) (.tmp 9), none⟩,
       ⟨some 11, .mov (.tmp 10), none⟩,
       ⟨some 12, .mov (.tmp 0), some (11, false)⟩,
       ⟨some 13, .len 0 (.tmp 12), some (11, false)⟩,
       ⟨some 14, .mov (.tmp 1), some (11, false)⟩,
       ⟨some 15, .len 0 (.tmp 14), some (11, false)⟩,
       ⟨some 16, .bin .eql .no (.tmp 13) (.tmp 15), some (11, false)⟩,
       ⟨some 17, .mov (.tmp 16), some (11, false)⟩,
       ⟨some 18, .mov (.tmp 0), some (17, true)⟩,
       ⟨some 19, .mov (.tmp 1), some (17, true)⟩,
       ⟨some 20, .bin .lss .no (.tmp 18) (.tmp 19), some (17, true)⟩,
       ⟨some 21, .pick (.tmp 17) (.tmp 20) (.lit (.bool false)), some (11, false)⟩,
       ⟨some 22, .pick (.tmp 11) (.lit (.bool true)) (.tmp 21), none⟩,
       ⟨some 5, .mov (.tmp 22), none⟩])
    (.cond (.tmp 5) (.seq (.ops [⟨some 4, .mov (.lit (.int .i64 (-1))), none⟩])
      .ret) (.seq (.ops [⟨some 24, .mov (.tmp 0), none⟩,
         ⟨some 25, .mov (.tmp 1), none⟩,
         ⟨some 26, .bin .eql .no (.tmp 24) (.tmp 25), none⟩,
         ⟨some 23, .mov (.tmp 26), none⟩])
      (.cond (.tmp 23) (.seq (.ops [⟨some 4, .mov (.lit (.int .i64 0)), none⟩])
        .ret) .skip)))))
  (.seq (.ops [⟨some 4, .mov (.lit (.int .i64 1)), none⟩])
   .ret))⟩
theorem ok78 : FnOK Go.Proofs.Try.prog 78 af78 := ⟨Go.Proofs.Try.f78, Go.Proofs.Try.func78, by kernel_rfl, by kernel_rfl⟩
def af79 : AFn := ⟨60, [.tmp 4], .seq (.ops [⟨some 4, .mov (.lit (.str [])), none⟩])
 (.seq (.seq (.ops [⟨some 10, .mov (.tmp 0), none⟩,
      ⟨some 11, .mov (.tmp 1), none⟩,
      ⟨some 12, .call (.lit (.fn (.func 78) [] [])) [.tmp 10, .tmp 11], none⟩,
      ⟨some 13, .bin .lss .no (.tmp 12) (.lit (.int .i64 0)), none⟩])
   (.cond (.tmp 13) (.seq (.ops [⟨some 4, .mov (.lit (.str [])), none⟩])
     .ret) .skip))
  (.seq (.ops [⟨some 14, .mov (.tmp 0), none⟩,
      ⟨some 15, .call (.lit (.fn (.func 93) [] [])) [.tmp 14], none⟩,
      ⟨some 16, .mov (.tmp 1), none⟩,
      ⟨some 17, .call (.lit (.fn (.func 93) [] [])) [.tmp 16], none⟩,
      ⟨some 5, .mov (.tmp 15), none⟩,
      ⟨some 6, .mov (.tmp 17), none⟩])
   (.seq (.ops [⟨some 7, .mov (.lit (.int .u64 0)), none⟩])
    (.seq (.seq (.ops [⟨some 8, .mov (.lit (.int .i64 0)), none⟩])
      (.block 0 (.loop (.seq (.seq (.ops [⟨some 18, .mov (.tmp 8), none⟩,
             ⟨some 19, .mov (.tmp 5), none⟩,
             ⟨some 20, .len 1 (.tmp 19), none⟩,
             ⟨some 21, .bin .lss .no (.tmp 18) (.tmp 20), none⟩])
          (.cond (.tmp 21) .skip (.exit 0)))
         (.seq (.block 1 (.seq (.ops [⟨some 24, .mov (.tmp 7), none⟩,
               ⟨some 9, .mov (.tmp 24), none⟩])
            (.seq (.seq (.ops [⟨some 25, .mov (.tmp 8), none⟩,
                 ⟨some 26, .mov (.tmp 6), none⟩,
                 ⟨some 27, .len 1 (.tmp 26), none⟩,
                 ⟨some 28, .bin .lss .no (.tmp 25) (.tmp 27), none⟩])
              (.cond (.tmp 28) (.ops [⟨some 29, .mov (.tmp 9), none⟩,
                  ⟨some 30, .mov (.tmp 6), none⟩,
                  ⟨some 31, .mov (.tmp 8), none⟩,
                  ⟨some 32, .iaddr none 1 (.tmp 30) (.tmp 31), none⟩,
                  ⟨some 33, .load none (.tmp 32), none⟩,
                  ⟨some 34, .bin .add .no (.tmp 29) (.tmp 33), none⟩,
                  ⟨some 9, .mov (.tmp 34), none⟩]) .skip))
             (.seq (.ops [⟨some 7, .mov (.lit (.int .u64 0)), none⟩])
              (.seq (.seq (.ops [⟨some 35, .mov (.tmp 5), none⟩,
                   ⟨some 36, .mov (.tmp 8), none⟩,
                   ⟨some 37, .iaddr none 1 (.tmp 35) (.tmp 36), none⟩,
                   ⟨some 38, .load none (.tmp 37), none⟩,
                   ⟨some 39, .mov (.tmp 9), none⟩,
                   ⟨some 40, .bin .lss .no (.tmp 38) (.tmp 39), none⟩])
                (.cond (.tmp 40) (.seq (.ops [⟨some 41, .mov (.tmp 5), none⟩,
                     ⟨some 42, .mov (.tmp 8), none⟩,
                     ⟨some 43, .mov (.tmp 5), none⟩,
                     ⟨some 44, .mov (.tmp 8), none⟩,
                     ⟨some 45, .iaddr none 1 (.tmp 43) (.tmp 44), none⟩,
                     ⟨some 46, .load none (.tmp 45), none⟩,
                     ⟨some 47, .bin .add .no (.tmp 46) (.lit (.int .u64 4294967296)), none⟩,
                     ⟨some 48, .iaddr none 1 (.tmp 41) (.tmp 42), none⟩,
                     ⟨none, .store 1 (.tmp 48) (.tmp 47), none⟩])
                  (.ops [⟨some 7, .mov (.lit (.int .u64 1)), none⟩])) .skip))
               (.ops [⟨some 49, .mov (.tmp 5), none⟩,
                  ⟨some 50, .mov (.tmp 8), none⟩,
                  ⟨some 51, .mov (.tmp 5), none⟩,
                  ⟨some 52, .mov (.tmp 8), none⟩,
                  ⟨some 53, .iaddr none 1 (.tmp 51) (.tmp 52), none⟩,
                  ⟨some 54, .load none (.tmp 53), none⟩,
                  ⟨some 55, .mov (.tmp 9), none⟩,
                  ⟨some 56, .bin .sub .no (.tmp 54) (.tmp 55), none⟩,
                  ⟨some 57, .iaddr none 1 (.tmp 49) (.tmp 50), none⟩,
                  ⟨none, .store 1 (.tmp 57) (.tmp 56), none⟩]))))))
          (.ops [⟨some 22, .mov (.tmp 8), none⟩,
             ⟨some 23, .bin .add .no (.tmp 22) (.lit (.int .i64 1)), none⟩,
             ⟨some 8, .mov (.tmp 23), none⟩]))))))
     (.seq (.ops [⟨some 58, .mov (.tmp 5), none⟩,
         ⟨some 59, .call (.lit (.fn (.func 92) [] [])) [.tmp 58], none⟩,
         ⟨some 4, .mov (.tmp 59), none⟩])
      .ret)))))⟩
theorem ok79 : FnOK Go.Proofs.Try.prog 79 af79 := ⟨Go.Proofs.Try.f79, Go.Proofs.Try.func79, by kernel_rfl, by kernel_rfl⟩
def af80 : AFn := ⟨70, [.tmp 4], .seq (.ops [⟨some 4, .mov (.lit (.str [])), none⟩])
 (.seq (.ops [⟨some 12, .mov (.tmp 0), none⟩,
     ⟨some 13, .call (.lit (.fn (.func 93) [] [])) [.tmp 12], none⟩,
     ⟨some 14, .mov (.tmp 1), none⟩,
     ⟨some 15, .call (.lit (.fn (.func 93) [] [])) [.tmp 14], none⟩,
     ⟨some 5, .mov (.tmp 13), none⟩,
     ⟨some 6, .mov (.tmp 15), none⟩])
  (.seq (.ops [⟨some 16, .mov (.tmp 5), none⟩,
      ⟨some 17, .len 1 (.tmp 16), none⟩,
      ⟨some 18, .mov (.tmp 6), none⟩,
      ⟨some 19, .len 1 (.tmp 18), none⟩,
      ⟨some 20, .bin .add .no (.tmp 17) (.tmp 19), none⟩,
      ⟨some 21, .mkslice 1 8 [.int .u64 0] (.tmp 20) (.tmp 20), none⟩,
      ⟨some 7, .mov (.tmp 21), none⟩])
   (.seq (.seq (.ops [⟨some 8, .mov (.lit (.int .i64 0)), none⟩])
     (.block 0 (.loop (.seq (.seq (.ops [⟨some 22, .mov (.tmp 8), none⟩,
            ⟨some 23, .mov (.tmp 5), none⟩,
            ⟨some 24, .len 1 (.tmp 23), none⟩,
            ⟨some 25, .bin .lss .no (.tmp 22) (.tmp 24), none⟩])
         (.cond (.tmp 25) .skip (.exit 0)))
        (.seq (.block 1 (.seq (.ops [⟨some 9, .mov (.lit (.int .u64 0)), none⟩])
           (.seq (.seq (.ops [⟨some 10, .mov (.lit (.int .i64 0)), none⟩])
             (.block 2 (.loop (.seq (.seq (.ops [⟨some 28, .mov (.tmp 10), none⟩,
                    ⟨some 29, .mov (.tmp 6), none⟩,
                    ⟨some 30, .len 1 (.tmp 29), none⟩,
                    ⟨some 31, .bin .lss .no (.tmp 28) (.tmp 30), none⟩])
                 (.cond (.tmp 31) .skip (.exit 2)))
                (.seq (.block 3 (.seq (.draw [(⟨some 34, .mov (.tmp 7), none⟩, 0),
                      (⟨some 35, .mov (.tmp 8), none⟩, 0),
                      (⟨some 36, .mov (.tmp 10), none⟩, 0),
                      (⟨some 37, .bin .add .no (.tmp 35) (.tmp 36), none⟩, 0),
                      (⟨some 38, .iaddr none 1 (.tmp 34) (.tmp 37), none⟩, 0),
                      (⟨some 39, .load none (.tmp 38), none⟩, 0),
                      (⟨some 40, .mov (.tmp 5), none⟩, 0),
                      (⟨some 41, .mov (.tmp 8), none⟩, 0),
                      (⟨some 42, .iaddr none 1 (.tmp 40) (.tmp 41), none⟩, 0),
                      (⟨some 43, .load none (.tmp 42), none⟩, 0),
                      (⟨some 44, .mov (.tmp 6), none⟩, 0),
                      (⟨some 45, .mov (.tmp 10), none⟩, 0),
                      (⟨some 46, .iaddr none 1 (.tmp 44) (.tmp 45), none⟩, 0),
                      (⟨some 47, .load none (.tmp 46), none⟩, 0),
                      (⟨some 48, .bin .mul .no (.tmp 43) (.tmp 47), none⟩, 0),
                      (⟨some 49, .bin .add .no (.tmp 39) (.tmp 48), none⟩, 0),
                      (⟨some 50, .mov (.tmp 9), none⟩, 0),
                      (⟨some 51, .bin .add .no (.tmp 49) (.tmp 50), none⟩, 0),
                      (⟨some 11, .mov (.tmp 51), none⟩, 0)])
                   (.seq (.ops [⟨some 52, .mov (.tmp 7), none⟩,
                       ⟨some 53, .mov (.tmp 8), none⟩,
                       ⟨some 54, .mov (.tmp 10), none⟩,
                       ⟨some 55, .bin .add .no (.tmp 53) (.tmp 54), none⟩,
                       ⟨some 56, .mov (.tmp 11), none⟩,
                       ⟨some 57, .bin .and .no (.tmp 56) (.lit (.int .u64 4294967295)), none⟩,
                       ⟨some 58, .iaddr none 1 (.tmp 52) (.tmp 55), none⟩,
                       ⟨none, .store 1 (.tmp 58) (.tmp 57), none⟩])
                    (.ops [⟨some 59, .mov (.tmp 11), none⟩,
                       ⟨some 60, .bin .shr .no (.tmp 59) (.lit (.int .u64 32)), none⟩,
                       ⟨some 9, .mov (.tmp 60), none⟩]))))
                 (.ops [⟨some 32, .mov (.tmp 10), none⟩,
                    ⟨some 33, .bin .add .no (.tmp 32) (.lit (.int .i64 1)), none⟩,
                    ⟨some 10, .mov (.tmp 33), none⟩]))))))
            (.ops [⟨some 61, .mov (.tmp 7), none⟩,
               ⟨some 62, .mov (.tmp 8), none⟩,
               ⟨some 63, .mov (.tmp 6), none⟩,
               ⟨some 64, .len 1 (.tmp 63), none⟩,
               ⟨some 65, .bin .add .no (.tmp 62) (.tmp 64), none⟩,
               ⟨some 66, .mov (.tmp 9), none⟩,
               ⟨some 67, .iaddr none 1 (.tmp 61) (.tmp 65), none⟩,
               ⟨none, .store 1 (.tmp 67) (.tmp 66), none⟩]))))
         (.ops [⟨some 26, .mov (.tmp 8), none⟩,
            ⟨some 27, .bin .add .no (.tmp 26) (.lit (.int .i64 1)), none⟩,
            ⟨some 8, .mov (.tmp 27), none⟩]))))))
    (.seq (.ops [⟨some 68, .mov (.tmp 7), none⟩,
        ⟨some 69, .call (.lit (.fn (.func 92) [] [])) [.tmp 68], none⟩,
        ⟨some 4, .mov (.tmp 69), none⟩])
     .ret))))⟩
theorem ok80 : FnOK Go.Proofs.Try.prog 80 af80 := ⟨Go.Proofs.Try.f80, Go.Proofs.Try.func80, by kernel_rfl, by kernel_rfl⟩
end Go.AM
