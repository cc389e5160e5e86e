/- The functions of the cut in the machine's form, printed by a program of this claim's own; each is the translation of the loaded function. No condition. -/
import Derived.Test.YtkicidfkmfkbhaaRows
import Derived.Test.YtkicidfkmfkbhaaAm23
set_option maxRecDepth 100000
namespace Go.AM
open Go
def af2 : AFn := ⟨1, [], .ops [⟨some 0, .call (.lit (.fn (.func 1) [] [])) [], none⟩]⟩
theorem ok2 : FnOK Go.Proofs.Try.prog 2 af2 := ⟨Go.Proofs.Try.f2, Go.Proofs.Try.func2, by kernel_rfl, by kernel_rfl⟩
def af3 : AFn := ⟨62, [.tmp 2], .seq (.ops [⟨some 2, .mov (.lit (.bool false)), none⟩])
 (.seq (.ops [⟨some 9, .mov (.tmp 0), none⟩,
     ⟨some 10, .call (.lit (.fn (.func 8) [] [])) [.tmp 9], none⟩,
     ⟨some 8, .mov (.tmp 10), none⟩,
     ⟨some 11, .extr 0 (.tmp 8), none⟩,
     ⟨some 12, .extr 1 (.tmp 8), none⟩,
     ⟨some 3, .mov (.tmp 11), none⟩,
     ⟨some 4, .mov (.tmp 12), none⟩])
  (.seq (.ops [⟨some 14, .mov (.tmp 0), none⟩,
      ⟨some 15, .call (.lit (.fn (.func 9) [] [])) [.tmp 14], none⟩,
      ⟨some 13, .mov (.tmp 15), none⟩,
      ⟨some 16, .extr 0 (.tmp 13), none⟩,
      ⟨some 17, .extr 1 (.tmp 13), none⟩,
      ⟨some 5, .mov (.tmp 16), none⟩,
      ⟨some 6, .mov (.tmp 17), none⟩])
   (.seq (.ops [⟨some 18, .mov (.tmp 0), none⟩,
       ⟨some 19, .call (.lit (.fn (.func 10) [] [])) [.tmp 18], none⟩,
       ⟨some 7, .mov (.tmp 19), none⟩])
    (.seq (.seq (.ops [⟨some 20, .mov (.tmp 7), none⟩,
         ⟨some 21, .bin .neq .no (.tmp 20) (.lit (.int .i64 0)), none⟩])
      (.cond (.tmp 21) (.seq (.ops [⟨some 22, .mov (.tmp 4), none⟩,
           ⟨some 23, .mov (.tmp 7), none⟩,
           ⟨some 24, .bin .eql .no (.tmp 22) (.tmp 23), none⟩,
           ⟨some 25, .mov (.tmp 24), none⟩,
           ⟨some 26, .mov (.tmp 3), some (25, true)⟩,
           ⟨some 27, .un .not (.tmp 26), some (25, true)⟩,
           ⟨some 28, .pick (.tmp 25) (.tmp 27) (.lit (.bool false)), none⟩,
           ⟨some 29, .mov (.tmp 28), none⟩,
           ⟨some 30, .mov (.tmp 6), some (29, true)⟩,
           ⟨some 31, .mov (.tmp 7), some (29, true)⟩,
           ⟨some 32, .bin .eql .no (.tmp 30) (.tmp 31), some (29, true)⟩,
           ⟨some 33, .pick (.tmp 29) (.tmp 32) (.lit (.bool false)), none⟩,
           ⟨some 34, .mov (.tmp 33), none⟩,
           ⟨some 35, .mov (.tmp 5), some (34, true)⟩,
           ⟨some 36, .un .not (.tmp 35), some (34, true)⟩,
           ⟨some 37, .pick (.tmp 34) (.tmp 36) (.lit (.bool false)), none⟩,
           ⟨some 38, .mov (.tmp 37), none⟩,
           ⟨some 39, .call (.lit (.fn (.func 11) [] [])) [], some (38, true)⟩,
           ⟨some 40, .pick (.tmp 38) (.tmp 39) (.lit (.bool false)), none⟩,
           ⟨some 2, .mov (.tmp 40), none⟩])
        .ret) .skip))
     (.seq (.ops [⟨some 41, .mov (.tmp 4), none⟩,
         ⟨some 42, .bin .eql .no (.tmp 41) (.lit (.int .i64 0)), none⟩,
         ⟨some 43, .mov (.tmp 42), none⟩,
         ⟨some 44, .mov (.tmp 3), some (43, true)⟩,
         ⟨some 45, .mov (.tmp 0), some (43, true)⟩,
         ⟨some 46, .call (.lit (.fn (.func 12) [] [])) [.tmp 45], some (43, true)⟩,
         ⟨some 47, .bin .eql .bool (.tmp 44) (.tmp 46), some (43, true)⟩,
         ⟨some 48, .pick (.tmp 43) (.tmp 47) (.lit (.bool false)), none⟩,
         ⟨some 49, .mov (.tmp 48), none⟩,
         ⟨some 50, .mov (.tmp 6), some (49, true)⟩,
         ⟨some 51, .bin .eql .no (.tmp 50) (.lit (.int .i64 0)), some (49, true)⟩,
         ⟨some 52, .pick (.tmp 49) (.tmp 51) (.lit (.bool false)), none⟩,
         ⟨some 53, .mov (.tmp 52), none⟩,
         ⟨some 54, .mov (.tmp 5), some (53, true)⟩,
         ⟨some 55, .mov (.tmp 0), some (53, true)⟩,
         ⟨some 56, .call (.lit (.fn (.func 13) [] [])) [.tmp 55], some (53, true)⟩,
         ⟨some 57, .bin .eql .bool (.tmp 54) (.tmp 56), some (53, true)⟩,
         ⟨some 58, .pick (.tmp 53) (.tmp 57) (.lit (.bool false)), none⟩,
         ⟨some 59, .mov (.tmp 58), none⟩,
         ⟨some 60, .call (.lit (.fn (.func 11) [] [])) [], some (59, true)⟩,
         ⟨some 61, .pick (.tmp 59) (.tmp 60) (.lit (.bool false)), none⟩,
         ⟨some 2, .mov (.tmp 61), none⟩])
      .ret)))))⟩
theorem ok3 : FnOK Go.Proofs.Try.prog 3 af3 := ⟨Go.Proofs.Try.f3, Go.Proofs.Try.func3, by kernel_rfl, by kernel_rfl⟩
def af4 : AFn := ⟨42, [.tmp 2], .seq (.ops [⟨some 2, .mov (.lit (.bool false)), none⟩])
 (.seq (.ops [⟨some 8, .mov (.tmp 0), none⟩,
     ⟨some 9, .call (.lit (.fn (.func 14) [] [])) [.tmp 8], none⟩,
     ⟨some 7, .mov (.tmp 9), none⟩,
     ⟨some 10, .extr 0 (.tmp 7), none⟩,
     ⟨some 11, .extr 1 (.tmp 7), none⟩,
     ⟨some 3, .mov (.tmp 10), none⟩,
     ⟨some 4, .mov (.tmp 11), none⟩])
  (.seq (.ops [⟨some 12, .mov (.tmp 0), none⟩,
      ⟨some 13, .call (.lit (.fn (.func 10) [] [])) [.tmp 12], none⟩,
      ⟨some 5, .mov (.tmp 13), none⟩])
   (.seq (.seq (.ops [⟨some 14, .mov (.tmp 5), none⟩,
        ⟨some 15, .bin .eql .no (.tmp 14) (.lit (.int .i64 0)), none⟩])
     (.cond (.tmp 15) (.seq (.ops [⟨some 16, .mov (.tmp 0), none⟩,
          ⟨some 17, .call (.lit (.fn (.func 15) [] [])) [.tmp 16], none⟩,
          ⟨some 6, .mov (.tmp 17), none⟩])
       (.seq (.seq (.ops [⟨some 18, .mov (.tmp 6), none⟩,
            ⟨some 19, .len 1 (.tmp 18), none⟩,
            ⟨some 20, .bin .leq .no (.tmp 19) (.lit (.int .i64 65)), none⟩])
         (.cond (.tmp 20) (.seq (.ops [⟨some 21, .mov (.tmp 4), none⟩,
              ⟨some 22, .bin .eql .no (.tmp 21) (.lit (.int .i64 0)), none⟩,
              ⟨some 23, .mov (.tmp 22), none⟩,
              ⟨some 24, .mov (.tmp 3), some (23, true)⟩,
              ⟨some 25, .mov (.tmp 6), some (23, true)⟩,
              ⟨some 26, .call (.lit (.fn (.func 16) [] [])) [.tmp 24, .tmp 25], some (23, true)⟩,
              ⟨some 27, .pick (.tmp 23) (.tmp 26) (.lit (.bool false)), none⟩,
              ⟨some 28, .mov (.tmp 27), none⟩,
              ⟨some 29, .call (.lit (.fn (.func 11) [] [])) [], some (28, true)⟩,
              ⟨some 30, .pick (.tmp 28) (.tmp 29) (.lit (.bool false)), none⟩,
              ⟨some 2, .mov (.tmp 30), none⟩])
           .ret) .skip))
        (.ops [⟨some 5, .mov (.lit (.int .i64 4)), none⟩]))) .skip))
    (.seq (.ops [⟨some 31, .mov (.tmp 4), none⟩,
        ⟨some 32, .mov (.tmp 5), none⟩,
        ⟨some 33, .bin .eql .no (.tmp 31) (.tmp 32), none⟩,
        ⟨some 34, .mov (.tmp 33), none⟩,
        ⟨some 35, .mov (.tmp 3), some (34, true)⟩,
        ⟨some 36, .len 1 (.tmp 35), some (34, true)⟩,
        ⟨some 37, .bin .eql .no (.tmp 36) (.lit (.int .i64 0)), some (34, true)⟩,
        ⟨some 38, .pick (.tmp 34) (.tmp 37) (.lit (.bool false)), none⟩,
        ⟨some 39, .mov (.tmp 38), none⟩,
        ⟨some 40, .call (.lit (.fn (.func 11) [] [])) [], some (39, true)⟩,
        ⟨some 41, .pick (.tmp 39) (.tmp 40) (.lit (.bool false)), none⟩,
        ⟨some 2, .mov (.tmp 41), none⟩])
     .ret))))⟩
theorem ok4 : FnOK Go.Proofs.Try.prog 4 af4 := ⟨Go.Proofs.Try.f4, Go.Proofs.Try.func4, by kernel_rfl, by kernel_rfl⟩
def af5 : AFn := ⟨97, [.tmp 2], .seq (.ops [⟨some 2, .mov (.lit (.bool false)), none⟩])
 (.seq (.ops [⟨some 13, .mov (.tmp 0), none⟩,
     ⟨some 14, .toInt .i64 (.tmp 13), none⟩,
     ⟨some 15, .bin .rem .no (.tmp 14) (.lit (.int .i64 254)), none⟩,
     ⟨some 16, .bin .add .no (.lit (.int .i64 3)) (.tmp 15), none⟩,
     ⟨some 3, .mov (.tmp 16), none⟩])
  (.seq (.ops [⟨some 18, .mov (.tmp 3), none⟩,
      ⟨some 19, .call (.lit (.fn (.func 8) [] [])) [.tmp 18], none⟩,
      ⟨some 17, .mov (.tmp 19), none⟩,
      ⟨some 20, .extr 0 (.tmp 17), none⟩,
      ⟨some 21, .extr 1 (.tmp 17), none⟩,
      ⟨some 4, .mov (.tmp 20), none⟩,
      ⟨some 5, .mov (.tmp 21), none⟩])
   (.seq (.ops [⟨some 23, .mov (.tmp 3), none⟩,
       ⟨some 24, .call (.lit (.fn (.func 9) [] [])) [.tmp 23], none⟩,
       ⟨some 22, .mov (.tmp 24), none⟩,
       ⟨some 25, .extr 0 (.tmp 22), none⟩,
       ⟨some 26, .extr 1 (.tmp 22), none⟩,
       ⟨some 6, .mov (.tmp 25), none⟩,
       ⟨some 7, .mov (.tmp 26), none⟩])
    (.seq (.ops [⟨some 8, .mov (.lit (.bool true)), none⟩,
        ⟨some 9, .mov (.lit (.bool true)), none⟩])
     (.seq (.seq (.ops [⟨some 27, .mov (.tmp 3), none⟩,
          ⟨some 28, .call (.lit (.fn (.func 17) [] [])) [.tmp 27], none⟩,
          ⟨some 29, .len 1 (.tmp 28), none⟩,
          ⟨some 30, .mov (.lit (.int .i64 0)), none⟩])
       (.block 0 (.loop (.seq (.ops [⟨some 31, .bin .lss .no (.tmp 30) (.tmp 29), none⟩])
          (.seq (.cond (.tmp 31) .skip (.exit 0))
           (.seq (.block 1 (.seq (.ops [⟨some 32, .iaddr none 2 (.tmp 28) (.tmp 30), none⟩,
                 ⟨some 33, .load (some 2) (.tmp 32), none⟩,
                 ⟨some 11, .alloc [.int .i64 0, .int .i64 0], none⟩,
                 ⟨none, .store 2 (.tmp 11) (.tmp 33), none⟩])
              (.seq (.ops [⟨some 34, .faddr 0 (.tmp 11), none⟩,
                  ⟨some 35, .load none (.tmp 34), none⟩,
                  ⟨some 12, .mov (.tmp 35), none⟩])
               (.seq (.seq (.ops [⟨some 36, .mov (.tmp 12), none⟩,
                    ⟨some 37, .bin .eql .no (.tmp 36) (.lit (.int .i64 2)), none⟩])
                 (.cond (.tmp 37) (.exit 1) .skip))
                (.seq (.ops [⟨some 38, .mov (.tmp 8), none⟩,
                    ⟨some 39, .mov (.tmp 38), none⟩,
                    ⟨some 40, .faddr 1 (.tmp 11), some (39, true)⟩,
                    ⟨some 41, .load none (.tmp 40), some (39, true)⟩,
                    ⟨some 42, .bin .eql .no (.tmp 41) (.lit (.int .i64 1)), some (39, true)⟩,
                    ⟨some 43, .pick (.tmp 39) (.tmp 42) (.lit (.bool false)), none⟩,
                    ⟨some 44, .mov (.tmp 43), none⟩,
                    ⟨some 45, .mov (.tmp 12), some (44, true)⟩,
                    ⟨some 46, .bin .eql .no (.tmp 45) (.lit (.int .i64 3)), some (44, true)⟩,
                    ⟨some 47, .mov (.tmp 46), some (44, true)⟩,
                    ⟨some 48, .mov (.tmp 12), some (47, false)⟩,
                    ⟨some 49, .bin .eql .no (.tmp 48) (.lit (.int .i64 5)), some (47, false)⟩,
                    ⟨some 50, .pick (.tmp 47) (.lit (.bool true)) (.tmp 49), some (44, true)⟩,
                    ⟨some 51, .mov (.tmp 50), some (44, true)⟩,
                    ⟨some 52, .mov (.tmp 12), some (51, false)⟩,
                    ⟨some 53, .bin .eql .no (.tmp 52) (.lit (.int .i64 17)), some (51, false)⟩,
                    ⟨some 54, .pick (.tmp 51) (.lit (.bool true)) (.tmp 53), some (44, true)⟩,
                    ⟨some 55, .pick (.tmp 44) (.tmp 54) (.lit (.bool false)), none⟩,
                    ⟨some 8, .mov (.tmp 55), none⟩])
                 (.ops [⟨some 56, .mov (.tmp 9), none⟩,
                    ⟨some 57, .mov (.tmp 56), none⟩,
                    ⟨some 58, .mov (.tmp 12), some (57, true)⟩,
                    ⟨some 59, .bin .eql .no (.tmp 58) (.lit (.int .i64 3)), some (57, true)⟩,
                    ⟨some 60, .mov (.tmp 59), some (57, true)⟩,
                    ⟨some 61, .faddr 1 (.tmp 11), some (60, false)⟩,
                    ⟨some 62, .load none (.tmp 61), some (60, false)⟩,
                    ⟨some 63, .bin .eql .no (.tmp 62) (.lit (.int .i64 1)), some (60, false)⟩,
                    ⟨some 64, .mov (.tmp 63), some (60, false)⟩,
                    ⟨some 65, .mov (.tmp 12), some (64, true)⟩,
                    ⟨some 66, .call (.lit (.fn (.func 18) [] [])) [.tmp 65], some (64, true)⟩,
                    ⟨some 67, .pick (.tmp 64) (.tmp 66) (.lit (.bool false)), some (60, false)⟩,
                    ⟨some 68, .pick (.tmp 60) (.lit (.bool true)) (.tmp 67), some (57, true)⟩,
                    ⟨some 69, .pick (.tmp 57) (.tmp 68) (.lit (.bool false)), none⟩,
                    ⟨some 9, .mov (.tmp 69), none⟩]))))))
            (.ops [⟨some 70, .bin .add .no (.tmp 30) (.lit (.int .i64 1)), none⟩,
               ⟨some 30, .mov (.tmp 70), none⟩])))))))
      (.seq (.ops [⟨some 71, .mov (.tmp 5), none⟩,
          ⟨some 72, .bin .eql .no (.tmp 71) (.lit (.int .i64 0)), none⟩,
          ⟨some 73, .mov (.tmp 72), none⟩,
          ⟨some 74, .mov (.tmp 7), some (73, true)⟩,
          ⟨some 75, .bin .eql .no (.tmp 74) (.lit (.int .i64 0)), some (73, true)⟩,
          ⟨some 76, .pick (.tmp 73) (.tmp 75) (.lit (.bool false)), none⟩,
          ⟨some 77, .mov (.tmp 76), none⟩,
          ⟨some 78, .mov (.tmp 4), some (77, true)⟩,
          ⟨some 79, .mov (.tmp 8), some (77, true)⟩,
          ⟨some 80, .bin .eql .bool (.tmp 78) (.tmp 79), some (77, true)⟩,
          ⟨some 81, .pick (.tmp 77) (.tmp 80) (.lit (.bool false)), none⟩,
          ⟨some 82, .mov (.tmp 81), none⟩,
          ⟨some 83, .mov (.tmp 6), some (82, true)⟩,
          ⟨some 84, .mov (.tmp 9), some (82, true)⟩,
          ⟨some 85, .bin .eql .bool (.tmp 83) (.tmp 84), some (82, true)⟩,
          ⟨some 86, .pick (.tmp 82) (.tmp 85) (.lit (.bool false)), none⟩,
          ⟨some 87, .mov (.tmp 86), none⟩,
          ⟨some 88, .mov (.tmp 4), some (87, true)⟩,
          ⟨some 89, .un .not (.tmp 88), some (87, true)⟩,
          ⟨some 90, .mov (.tmp 89), some (87, true)⟩,
          ⟨some 91, .mov (.tmp 6), some (90, false)⟩,
          ⟨some 92, .pick (.tmp 90) (.lit (.bool true)) (.tmp 91), some (87, true)⟩,
          ⟨some 93, .pick (.tmp 87) (.tmp 92) (.lit (.bool false)), none⟩,
          ⟨some 94, .mov (.tmp 93), none⟩,
          ⟨some 95, .call (.lit (.fn (.func 11) [] [])) [], some (94, true)⟩,
          ⟨some 96, .pick (.tmp 94) (.tmp 95) (.lit (.bool false)), none⟩,
          ⟨some 2, .mov (.tmp 96), none⟩])
       .ret))))))⟩
theorem ok5 : FnOK Go.Proofs.Try.prog 5 af5 := ⟨Go.Proofs.Try.f5, Go.Proofs.Try.func5, by kernel_rfl, by kernel_rfl⟩
def af6 : AFn := ⟨123, [.tmp 4], .seq (.ops [⟨some 4, .mov (.lit (.bool false)), none⟩])
 (.seq (.ops [⟨some 21, .mov (.tmp 0), none⟩,
     ⟨some 22, .toInt .i64 (.tmp 21), none⟩,
     ⟨some 23, .bin .rem .no (.tmp 22) (.lit (.int .i64 13)), none⟩,
     ⟨some 24, .bin .add .no (.lit (.int .i64 3)) (.tmp 23), none⟩,
     ⟨some 25, .mov (.tmp 1), none⟩,
     ⟨some 26, .toInt .i64 (.tmp 25), none⟩,
     ⟨some 27, .bin .rem .no (.tmp 26) (.lit (.int .i64 13)), none⟩,
     ⟨some 28, .bin .add .no (.lit (.int .i64 3)) (.tmp 27), none⟩,
     ⟨some 5, .mov (.tmp 24), none⟩,
     ⟨some 6, .mov (.tmp 28), none⟩])
  (.seq (.ops [⟨some 30, .mov (.tmp 5), none⟩,
      ⟨some 31, .call (.lit (.fn (.func 8) [] [])) [.tmp 30], none⟩,
      ⟨some 29, .mov (.tmp 31), none⟩,
      ⟨some 32, .extr 0 (.tmp 29), none⟩,
      ⟨some 33, .extr 1 (.tmp 29), none⟩,
      ⟨some 7, .mov (.tmp 32), none⟩,
      ⟨some 8, .mov (.tmp 33), none⟩])
   (.seq (.ops [⟨some 35, .mov (.tmp 6), none⟩,
       ⟨some 36, .call (.lit (.fn (.func 8) [] [])) [.tmp 35], none⟩,
       ⟨some 34, .mov (.tmp 36), none⟩,
       ⟨some 37, .extr 0 (.tmp 34), none⟩,
       ⟨some 38, .extr 1 (.tmp 34), none⟩,
       ⟨some 9, .mov (.tmp 37), none⟩,
       ⟨some 10, .mov (.tmp 38), none⟩])
    (.seq (.ops [⟨some 40, .mov (.tmp 5), none⟩,
        ⟨some 41, .bin .mul .no (.lit (.int .i64 2)) (.tmp 40), none⟩,
        ⟨some 42, .call (.lit (.fn (.func 8) [] [])) [.tmp 41], none⟩,
        ⟨some 39, .mov (.tmp 42), none⟩,
        ⟨some 43, .extr 0 (.tmp 39), none⟩,
        ⟨some 44, .extr 1 (.tmp 39), none⟩,
        ⟨some 11, .mov (.tmp 43), none⟩,
        ⟨some 12, .mov (.tmp 44), none⟩])
     (.seq (.ops [⟨some 46, .mov (.tmp 5), none⟩,
         ⟨some 47, .mov (.tmp 6), none⟩,
         ⟨some 48, .bin .mul .no (.tmp 46) (.tmp 47), none⟩,
         ⟨some 49, .call (.lit (.fn (.func 8) [] [])) [.tmp 48], none⟩,
         ⟨some 45, .mov (.tmp 49), none⟩,
         ⟨some 50, .extr 0 (.tmp 45), none⟩,
         ⟨some 51, .extr 1 (.tmp 45), none⟩,
         ⟨some 13, .mov (.tmp 50), none⟩,
         ⟨some 14, .mov (.tmp 51), none⟩])
      (.seq (.ops [⟨some 53, .mov (.tmp 5), none⟩,
          ⟨some 54, .call (.lit (.fn (.func 9) [] [])) [.tmp 53], none⟩,
          ⟨some 52, .mov (.tmp 54), none⟩,
          ⟨some 55, .extr 0 (.tmp 52), none⟩,
          ⟨some 56, .extr 1 (.tmp 52), none⟩,
          ⟨some 15, .mov (.tmp 55), none⟩,
          ⟨some 16, .mov (.tmp 56), none⟩])
       (.seq (.ops [⟨some 58, .mov (.tmp 6), none⟩,
           ⟨some 59, .call (.lit (.fn (.func 9) [] [])) [.tmp 58], none⟩,
           ⟨some 57, .mov (.tmp 59), none⟩,
           ⟨some 60, .extr 0 (.tmp 57), none⟩,
           ⟨some 61, .extr 1 (.tmp 57), none⟩,
           ⟨some 17, .mov (.tmp 60), none⟩,
           ⟨some 18, .mov (.tmp 61), none⟩])
        (.seq (.ops [⟨some 63, .mov (.tmp 5), none⟩,
            ⟨some 64, .mov (.tmp 6), none⟩,
            ⟨some 65, .bin .mul .no (.tmp 63) (.tmp 64), none⟩,
            ⟨some 66, .call (.lit (.fn (.func 9) [] [])) [.tmp 65], none⟩,
            ⟨some 62, .mov (.tmp 66), none⟩,
            ⟨some 67, .extr 0 (.tmp 62), none⟩,
            ⟨some 68, .extr 1 (.tmp 62), none⟩,
            ⟨some 19, .mov (.tmp 67), none⟩,
            ⟨some 20, .mov (.tmp 68), none⟩])
         (.seq (.seq (.ops [⟨some 69, .mov (.tmp 8), none⟩,
              ⟨some 70, .bin .neq .no (.tmp 69) (.lit (.int .i64 0)), none⟩,
              ⟨some 71, .mov (.tmp 70), none⟩,
              ⟨some 72, .mov (.tmp 10), some (71, false)⟩,
              ⟨some 73, .bin .neq .no (.tmp 72) (.lit (.int .i64 0)), some (71, false)⟩,
              ⟨some 74, .pick (.tmp 71) (.lit (.bool true)) (.tmp 73), none⟩,
              ⟨some 75, .mov (.tmp 74), none⟩,
              ⟨some 76, .mov (.tmp 12), some (75, false)⟩,
              ⟨some 77, .bin .neq .no (.tmp 76) (.lit (.int .i64 0)), some (75, false)⟩,
              ⟨some 78, .pick (.tmp 75) (.lit (.bool true)) (.tmp 77), none⟩,
              ⟨some 79, .mov (.tmp 78), none⟩,
              ⟨some 80, .mov (.tmp 14), some (79, false)⟩,
              ⟨some 81, .bin .neq .no (.tmp 80) (.lit (.int .i64 0)), some (79, false)⟩,
              ⟨some 82, .pick (.tmp 79) (.lit (.bool true)) (.tmp 81), none⟩,
              ⟨some 83, .mov (.tmp 82), none⟩,
              ⟨some 84, .mov (.tmp 16), some (83, false)⟩,
              ⟨some 85, .bin .neq .no (.tmp 84) (.lit (.int .i64 0)), some (83, false)⟩,
              ⟨some 86, .pick (.tmp 83) (.lit (.bool true)) (.tmp 85), none⟩,
              ⟨some 87, .mov (.tmp 86), none⟩,
              ⟨some 88, .mov (.tmp 18), some (87, false)⟩,
              ⟨some 89, .bin .neq .no (.tmp 88) (.lit (.int .i64 0)), some (87, false)⟩,
              ⟨some 90, .pick (.tmp 87) (.lit (.bool true)) (.tmp 89), none⟩,
              ⟨some 91, .mov (.tmp 90), none⟩,
              ⟨some 92, .mov (.tmp 20), some (91, false)⟩,
              ⟨some 93, .bin .neq .no (.tmp 92) (.lit (.int .i64 0)), some (91, false)⟩,
              ⟨some 94, .pick (.tmp 91) (.lit (.bool true)) (.tmp 93), none⟩,
              ⟨some 95, .mov (.tmp 94), none⟩,
              ⟨some 96, .mov (.tmp 7), some (95, false)⟩,
              ⟨some 97, .mov (.tmp 11), some (95, false)⟩,
              ⟨some 98, .bin .neq .bool (.tmp 96) (.tmp 97), some (95, false)⟩,
              ⟨some 99, .pick (.tmp 95) (.lit (.bool true)) (.tmp 98), none⟩])
           (.cond (.tmp 99) (.seq (.ops [⟨some 4, .mov (.lit (.bool false)), none⟩])
             .ret) .skip))
          (.seq (.ops [⟨some 100, .mov (.tmp 5), none⟩,
              ⟨some 101, .mov (.tmp 6), none⟩,
              ⟨some 102, .call (.lit (.fn (.func 19) [] [])) [.tmp 100, .tmp 101], none⟩,
              ⟨some 103, .bin .neq .no (.tmp 102) (.lit (.int .i64 1)), none⟩,
              ⟨some 104, .mov (.tmp 103), none⟩,
              ⟨some 105, .mov (.tmp 13), some (104, false)⟩,
              ⟨some 106, .mov (.tmp 7), some (104, false)⟩,
              ⟨some 107, .mov (.tmp 106), some (104, false)⟩,
              ⟨some 108, .mov (.tmp 9), some (107, true)⟩,
              ⟨some 109, .pick (.tmp 107) (.tmp 108) (.lit (.bool false)), some (104, false)⟩,
              ⟨some 110, .bin .eql .bool (.tmp 105) (.tmp 109), some (104, false)⟩,
              ⟨some 111, .mov (.tmp 110), some (104, false)⟩,
              ⟨some 112, .mov (.tmp 19), some (111, true)⟩,
              ⟨some 113, .mov (.tmp 15), some (111, true)⟩,
              ⟨some 114, .mov (.tmp 113), some (111, true)⟩,
              ⟨some 115, .mov (.tmp 17), some (114, true)⟩,
              ⟨some 116, .pick (.tmp 114) (.tmp 115) (.lit (.bool false)), some (111, true)⟩,
              ⟨some 117, .bin .eql .bool (.tmp 112) (.tmp 116), some (111, true)⟩,
              ⟨some 118, .pick (.tmp 111) (.tmp 117) (.lit (.bool false)), some (104, false)⟩,
              ⟨some 119, .pick (.tmp 104) (.lit (.bool true)) (.tmp 118), none⟩,
              ⟨some 120, .mov (.tmp 119), none⟩,
              ⟨some 121, .call (.lit (.fn (.func 11) [] [])) [], some (120, true)⟩,
              ⟨some 122, .pick (.tmp 120) (.tmp 121) (.lit (.bool false)), none⟩,
              ⟨some 4, .mov (.tmp 122), none⟩])
           .ret))))))))))⟩
theorem ok6 : FnOK Go.Proofs.Try.prog 6 af6 := ⟨Go.Proofs.Try.f6, Go.Proofs.Try.func6, by kernel_rfl, by kernel_rfl⟩
def af7 : AFn := ⟨105, [.tmp 2], .seq (.ops [⟨some 2, .mov (.lit (.bool false)), none⟩])
 (.seq (.ops [⟨some 10, .mov (.tmp 0), none⟩,
     ⟨some 11, .call (.lit (.fn (.func 20) [] [])) [.tmp 10], none⟩,
     ⟨some 9, .mov (.tmp 11), none⟩,
     ⟨some 12, .extr 0 (.tmp 9), none⟩,
     ⟨some 13, .extr 1 (.tmp 9), none⟩,
     ⟨some 3, .mov (.tmp 12), none⟩,
     ⟨some 4, .mov (.tmp 13), none⟩])
  (.seq (.ops [⟨some 15, .mov (.tmp 0), none⟩,
      ⟨some 16, .call (.lit (.fn (.func 21) [] [])) [.tmp 15], none⟩,
      ⟨some 14, .mov (.tmp 16), none⟩,
      ⟨some 17, .extr 0 (.tmp 14), none⟩,
      ⟨some 18, .extr 1 (.tmp 14), none⟩,
      ⟨some 5, .mov (.tmp 17), none⟩,
      ⟨some 6, .mov (.tmp 18), none⟩])
   (.seq (.ops [⟨some 20, .mov (.tmp 0), none⟩,
       ⟨some 21, .call (.lit (.fn (.func 22) [] [])) [.tmp 20], none⟩,
       ⟨some 19, .mov (.tmp 21), none⟩,
       ⟨some 22, .extr 0 (.tmp 19), none⟩,
       ⟨some 23, .extr 1 (.tmp 19), none⟩,
       ⟨some 7, .mov (.tmp 22), none⟩,
       ⟨some 8, .mov (.tmp 23), none⟩])
    (.seq (.seq (.ops [⟨some 24, .mov (.tmp 4), none⟩,
         ⟨some 25, .mov (.tmp 0), none⟩,
         ⟨some 26, .call (.lit (.fn (.func 23) [] [])) [.tmp 25], none⟩,
         ⟨some 27, .bin .neq .no (.tmp 24) (.tmp 26), none⟩,
         ⟨some 28, .mov (.tmp 27), none⟩,
         ⟨some 29, .mov (.tmp 6), some (28, false)⟩,
         ⟨some 30, .mov (.tmp 0), some (28, false)⟩,
         ⟨some 31, .call (.lit (.fn (.func 24) [] [])) [.tmp 30], some (28, false)⟩,
         ⟨some 32, .bin .neq .no (.tmp 29) (.tmp 31), some (28, false)⟩,
         ⟨some 33, .pick (.tmp 28) (.lit (.bool true)) (.tmp 32), none⟩,
         ⟨some 34, .mov (.tmp 33), none⟩,
         ⟨some 35, .mov (.tmp 8), some (34, false)⟩,
         ⟨some 36, .mov (.tmp 0), some (34, false)⟩,
         ⟨some 37, .call (.lit (.fn (.func 25) [] [])) [.tmp 36], some (34, false)⟩,
         ⟨some 38, .bin .neq .no (.tmp 35) (.tmp 37), some (34, false)⟩,
         ⟨some 39, .pick (.tmp 34) (.lit (.bool true)) (.tmp 38), none⟩])
      (.cond (.tmp 39) (.seq (.ops [⟨some 2, .mov (.lit (.bool false)), none⟩])
        .ret) .skip))
     (.seq (.ops [⟨some 40, .mov (.tmp 4), none⟩,
         ⟨some 41, .bin .eql .no (.tmp 40) (.lit (.int .i64 0)), none⟩,
         ⟨some 42, .mov (.tmp 41), none⟩,
         ⟨some 43, .mov (.tmp 3), some (42, true)⟩,
         ⟨some 44, .call (.lit (.fn (.func 26) [] [])) [.tmp 43, .lit (.int .i64 1024)], some (42, true)⟩,
         ⟨some 45, .pick (.tmp 42) (.tmp 44) (.lit (.bool false)), none⟩,
         ⟨some 46, .mov (.tmp 45), none⟩,
         ⟨some 47, .mov (.tmp 4), some (46, false)⟩,
         ⟨some 48, .bin .neq .no (.tmp 47) (.lit (.int .i64 0)), some (46, false)⟩,
         ⟨some 49, .mov (.tmp 48), some (46, false)⟩,
         ⟨some 50, .mov (.tmp 3), some (49, true)⟩,
         ⟨some 51, .len 1 (.tmp 50), some (49, true)⟩,
         ⟨some 52, .bin .eql .no (.tmp 51) (.lit (.int .i64 0)), some (49, true)⟩,
         ⟨some 53, .pick (.tmp 49) (.tmp 52) (.lit (.bool false)), some (46, false)⟩,
         ⟨some 54, .pick (.tmp 46) (.lit (.bool true)) (.tmp 53), none⟩,
         ⟨some 55, .mov (.tmp 54), none⟩,
         ⟨some 56, .mov (.tmp 6), some (55, true)⟩,
         ⟨some 57, .bin .eql .no (.tmp 56) (.lit (.int .i64 0)), some (55, true)⟩,
         ⟨some 58, .mov (.tmp 57), some (55, true)⟩,
         ⟨some 59, .mov (.tmp 5), some (58, true)⟩,
         ⟨some 60, .call (.lit (.fn (.func 26) [] [])) [.tmp 59, .lit (.int .i64 1024)], some (58, true)⟩,
         ⟨some 61, .pick (.tmp 58) (.tmp 60) (.lit (.bool false)), some (55, true)⟩,
         ⟨some 62, .mov (.tmp 61), some (55, true)⟩,
         ⟨some 63, .mov (.tmp 5), some (62, true)⟩,
         ⟨some 64, .len 1 (.tmp 63), some (62, true)⟩,
         ⟨some 65, .mov (.tmp 0), some (62, true)⟩,
         ⟨some 66, .bin .geq .no (.tmp 64) (.tmp 65), some (62, true)⟩,
         ⟨some 67, .pick (.tmp 62) (.tmp 66) (.lit (.bool false)), some (55, true)⟩,
         ⟨some 68, .mov (.tmp 67), some (55, true)⟩,
         ⟨some 69, .mov (.tmp 6), some (68, false)⟩,
         ⟨some 70, .bin .neq .no (.tmp 69) (.lit (.int .i64 0)), some (68, false)⟩,
         ⟨some 71, .mov (.tmp 70), some (68, false)⟩,
         ⟨some 72, .mov (.tmp 5), some (71, true)⟩,
         ⟨some 73, .len 1 (.tmp 72), some (71, true)⟩,
         ⟨some 74, .bin .eql .no (.tmp 73) (.lit (.int .i64 0)), some (71, true)⟩,
         ⟨some 75, .pick (.tmp 71) (.tmp 74) (.lit (.bool false)), some (68, false)⟩,
         ⟨some 76, .pick (.tmp 68) (.lit (.bool true)) (.tmp 75), some (55, true)⟩,
         ⟨some 77, .pick (.tmp 55) (.tmp 76) (.lit (.bool false)), none⟩,
         ⟨some 78, .mov (.tmp 77), none⟩,
         ⟨some 79, .mov (.tmp 8), some (78, true)⟩,
         ⟨some 80, .bin .eql .no (.tmp 79) (.lit (.int .i64 0)), some (78, true)⟩,
         ⟨some 81, .mov (.tmp 80), some (78, true)⟩,
         ⟨some 82, .mov (.tmp 7), some (81, true)⟩,
         ⟨some 83, .len 1 (.tmp 82), some (81, true)⟩,
         ⟨some 84, .mov (.tmp 0), some (81, true)⟩,
         ⟨some 85, .bin .geq .no (.tmp 83) (.tmp 84), some (81, true)⟩,
         ⟨some 86, .pick (.tmp 81) (.tmp 85) (.lit (.bool false)), some (78, true)⟩,
         ⟨some 87, .mov (.tmp 86), some (78, true)⟩,
         ⟨some 88, .mov (.tmp 7), some (87, true)⟩,
         ⟨some 89, .len 1 (.tmp 88), some (87, true)⟩,
         ⟨some 90, .bin .leq .no (.tmp 89) (.lit (.int .i64 1024)), some (87, true)⟩,
         ⟨some 91, .pick (.tmp 87) (.tmp 90) (.lit (.bool false)), some (78, true)⟩,
         ⟨some 92, .mov (.tmp 91), some (78, true)⟩,
         ⟨some 93, .mov (.tmp 8), some (92, false)⟩,
         ⟨some 94, .bin .neq .no (.tmp 93) (.lit (.int .i64 0)), some (92, false)⟩,
         ⟨some 95, .mov (.tmp 94), some (92, false)⟩,
         ⟨some 96, .mov (.tmp 7), some (95, true)⟩,
         ⟨some 97, .len 1 (.tmp 96), some (95, true)⟩,
         ⟨some 98, .bin .eql .no (.tmp 97) (.lit (.int .i64 0)), some (95, true)⟩,
         ⟨some 99, .pick (.tmp 95) (.tmp 98) (.lit (.bool false)), some (92, false)⟩,
         ⟨some 100, .pick (.tmp 92) (.lit (.bool true)) (.tmp 99), some (78, true)⟩,
         ⟨some 101, .pick (.tmp 78) (.tmp 100) (.lit (.bool false)), none⟩,
         ⟨some 102, .mov (.tmp 101), none⟩,
         ⟨some 103, .call (.lit (.fn (.func 11) [] [])) [], some (102, true)⟩,
         ⟨some 104, .pick (.tmp 102) (.tmp 103) (.lit (.bool false)), none⟩,
         ⟨some 2, .mov (.tmp 104), none⟩])
      .ret)))))⟩
theorem ok7 : FnOK Go.Proofs.Try.prog 7 af7 := ⟨Go.Proofs.Try.f7, Go.Proofs.Try.func7, by kernel_rfl, by kernel_rfl⟩
def af8 : AFn := ⟨13, [.tmp 2, .tmp 3], .seq (.ops [⟨some 2, .mov (.lit (.bool false)), none⟩,
    ⟨some 3, .mov (.lit (.int .i64 0)), none⟩])
 (.seq (.seq (.ops [⟨some 5, .mov (.tmp 0), none⟩,
      ⟨some 6, .call (.lit (.fn (.func 27) [] [])) [.tmp 5], none⟩,
      ⟨some 4, .mov (.tmp 6), none⟩])
   (.seq (.ops [⟨some 7, .mov (.tmp 4), none⟩,
       ⟨some 8, .bin .neq .no (.tmp 7) (.lit (.int .i64 0)), none⟩])
    (.cond (.tmp 8) (.seq (.ops [⟨some 9, .mov (.tmp 4), none⟩,
         ⟨some 2, .mov (.lit (.bool false)), none⟩,
         ⟨some 3, .mov (.tmp 9), none⟩])
      .ret) .skip)))
  (.seq (.ops [⟨some 10, .mov (.tmp 0), none⟩,
      ⟨some 11, .bslice 1 1 [.int .i64 0] [(0, .lit (.int .i64 2))], none⟩,
      ⟨some 12, .call (.lit (.fn (.func 28) [] [])) [.tmp 10, .tmp 11], none⟩,
      ⟨some 2, .mov (.tmp 12), none⟩,
      ⟨some 3, .mov (.lit (.int .i64 0)), none⟩])
   .ret))⟩
theorem ok8 : FnOK Go.Proofs.Try.prog 8 af8 := ⟨Go.Proofs.Try.f8, Go.Proofs.Try.func8, by kernel_rfl, by kernel_rfl⟩
def af9 : AFn := ⟨13, [.tmp 2, .tmp 3], .seq (.ops [⟨some 2, .mov (.lit (.bool false)), none⟩,
    ⟨some 3, .mov (.lit (.int .i64 0)), none⟩])
 (.seq (.seq (.ops [⟨some 5, .mov (.tmp 0), none⟩,
      ⟨some 6, .call (.lit (.fn (.func 27) [] [])) [.tmp 5], none⟩,
      ⟨some 4, .mov (.tmp 6), none⟩])
   (.seq (.ops [⟨some 7, .mov (.tmp 4), none⟩,
       ⟨some 8, .bin .neq .no (.tmp 7) (.lit (.int .i64 0)), none⟩])
    (.cond (.tmp 8) (.seq (.ops [⟨some 9, .mov (.tmp 4), none⟩,
         ⟨some 2, .mov (.lit (.bool false)), none⟩,
         ⟨some 3, .mov (.tmp 9), none⟩])
      .ret) .skip)))
  (.seq (.ops [⟨some 10, .mov (.tmp 0), none⟩,
      ⟨some 11, .bslice 2 1 [.int .i64 0, .int .i64 0] [(0, .lit (.int .i64 2)), (1, .lit (.int .i64 3))], none⟩,
      ⟨some 12, .call (.lit (.fn (.func 28) [] [])) [.tmp 10, .tmp 11], none⟩,
      ⟨some 2, .mov (.tmp 12), none⟩,
      ⟨some 3, .mov (.lit (.int .i64 0)), none⟩])
   .ret))⟩
theorem ok9 : FnOK Go.Proofs.Try.prog 9 af9 := ⟨Go.Proofs.Try.f9, Go.Proofs.Try.func9, by kernel_rfl, by kernel_rfl⟩
def af10 : AFn := ⟨9, [.tmp 2], .seq (.ops [⟨some 2, .mov (.lit (.int .i64 0)), none⟩])
 (.seq (.seq (.ops [⟨some 3, .mov (.tmp 0), none⟩,
      ⟨some 4, .bin .lss .no (.tmp 3) (.lit (.int .i64 3)), none⟩,
      ⟨some 5, .mov (.tmp 4), none⟩,
      ⟨some 6, .mov (.tmp 0), some (5, false)⟩,
      ⟨some 7, .bin .gtr .no (.tmp 6) (.lit (.int .i64 256)), some (5, false)⟩,
      ⟨some 8, .pick (.tmp 5) (.lit (.bool true)) (.tmp 7), none⟩])
   (.cond (.tmp 8) (.seq (.ops [⟨some 2, .mov (.lit (.int .i64 3)), none⟩])
     .ret) .skip))
  (.seq (.ops [⟨some 2, .mov (.lit (.int .i64 0)), none⟩])
   .ret))⟩
theorem ok10 : FnOK Go.Proofs.Try.prog 10 af10 := ⟨Go.Proofs.Try.f10, Go.Proofs.Try.func10, by kernel_rfl, by kernel_rfl⟩
def af11 : AFn := ⟨87, [.tmp 0], .seq (.ops [⟨some 0, .mov (.lit (.bool false)), none⟩])
 (.seq (.ops [⟨some 16, .call (.lit (.fn (.func 8) [] [])) [.lit (.int .i64 17)], none⟩,
     ⟨some 15, .mov (.tmp 16), none⟩,
     ⟨some 17, .extr 0 (.tmp 15), none⟩,
     ⟨some 18, .extr 1 (.tmp 15), none⟩,
     ⟨some 1, .mov (.tmp 17), none⟩,
     ⟨some 2, .mov (.tmp 18), none⟩])
  (.seq (.ops [⟨some 20, .call (.lit (.fn (.func 8) [] [])) [.lit (.int .i64 9)], none⟩,
      ⟨some 19, .mov (.tmp 20), none⟩,
      ⟨some 21, .extr 0 (.tmp 19), none⟩,
      ⟨some 22, .extr 1 (.tmp 19), none⟩,
      ⟨some 3, .mov (.tmp 21), none⟩,
      ⟨some 4, .mov (.tmp 22), none⟩])
   (.seq (.ops [⟨some 24, .call (.lit (.fn (.func 9) [] [])) [.lit (.int .i64 9)], none⟩,
       ⟨some 23, .mov (.tmp 24), none⟩,
       ⟨some 25, .extr 0 (.tmp 23), none⟩,
       ⟨some 26, .extr 1 (.tmp 23), none⟩,
       ⟨some 5, .mov (.tmp 25), none⟩,
       ⟨some 6, .mov (.tmp 26), none⟩])
    (.seq (.ops [⟨some 28, .call (.lit (.fn (.func 9) [] [])) [.lit (.int .i64 25)], none⟩,
        ⟨some 27, .mov (.tmp 28), none⟩,
        ⟨some 29, .extr 0 (.tmp 27), none⟩,
        ⟨some 30, .extr 1 (.tmp 27), none⟩,
        ⟨some 7, .mov (.tmp 29), none⟩,
        ⟨some 8, .mov (.tmp 30), none⟩])
     (.seq (.ops [⟨some 32, .call (.lit (.fn (.func 14) [] [])) [.lit (.int .i64 7)], none⟩,
         ⟨some 31, .mov (.tmp 32), none⟩,
         ⟨some 33, .extr 0 (.tmp 31), none⟩,
         ⟨some 34, .extr 1 (.tmp 31), none⟩,
         ⟨some 9, .mov (.tmp 33), none⟩,
         ⟨some 10, .mov (.tmp 34), none⟩])
      (.seq (.ops [⟨some 36, .call (.lit (.fn (.func 21) [] [])) [.lit (.int .i64 7)], none⟩,
          ⟨some 35, .mov (.tmp 36), none⟩,
          ⟨some 37, .extr 0 (.tmp 35), none⟩,
          ⟨some 38, .extr 1 (.tmp 35), none⟩,
          ⟨some 11, .mov (.tmp 37), none⟩,
          ⟨some 12, .mov (.tmp 38), none⟩])
       (.seq (.ops [⟨some 40, .call (.lit (.fn (.func 22) [] [])) [.lit (.int .i64 19)], none⟩,
           ⟨some 39, .mov (.tmp 40), none⟩,
           ⟨some 41, .extr 0 (.tmp 39), none⟩,
           ⟨some 42, .extr 1 (.tmp 39), none⟩,
           ⟨some 13, .mov (.tmp 41), none⟩,
           ⟨some 14, .mov (.tmp 42), none⟩])
        (.seq (.seq (.ops [⟨some 43, .mov (.tmp 2), none⟩,
             ⟨some 44, .bin .neq .no (.tmp 43) (.lit (.int .i64 0)), none⟩,
             ⟨some 45, .mov (.tmp 44), none⟩,
             ⟨some 46, .mov (.tmp 4), some (45, false)⟩,
             ⟨some 47, .bin .neq .no (.tmp 46) (.lit (.int .i64 0)), some (45, false)⟩,
             ⟨some 48, .pick (.tmp 45) (.lit (.bool true)) (.tmp 47), none⟩,
             ⟨some 49, .mov (.tmp 48), none⟩,
             ⟨some 50, .mov (.tmp 6), some (49, false)⟩,
             ⟨some 51, .bin .neq .no (.tmp 50) (.lit (.int .i64 0)), some (49, false)⟩,
             ⟨some 52, .pick (.tmp 49) (.lit (.bool true)) (.tmp 51), none⟩,
             ⟨some 53, .mov (.tmp 52), none⟩,
             ⟨some 54, .mov (.tmp 8), some (53, false)⟩,
             ⟨some 55, .bin .neq .no (.tmp 54) (.lit (.int .i64 0)), some (53, false)⟩,
             ⟨some 56, .pick (.tmp 53) (.lit (.bool true)) (.tmp 55), none⟩,
             ⟨some 57, .mov (.tmp 56), none⟩,
             ⟨some 58, .mov (.tmp 10), some (57, false)⟩,
             ⟨some 59, .bin .neq .no (.tmp 58) (.lit (.int .i64 0)), some (57, false)⟩,
             ⟨some 60, .pick (.tmp 57) (.lit (.bool true)) (.tmp 59), none⟩,
             ⟨some 61, .mov (.tmp 60), none⟩,
             ⟨some 62, .mov (.tmp 12), some (61, false)⟩,
             ⟨some 63, .bin .neq .no (.tmp 62) (.lit (.int .i64 10)), some (61, false)⟩,
             ⟨some 64, .pick (.tmp 61) (.lit (.bool true)) (.tmp 63), none⟩,
             ⟨some 65, .mov (.tmp 64), none⟩,
             ⟨some 66, .mov (.tmp 14), some (65, false)⟩,
             ⟨some 67, .bin .neq .no (.tmp 66) (.lit (.int .i64 17)), some (65, false)⟩,
             ⟨some 68, .pick (.tmp 65) (.lit (.bool true)) (.tmp 67), none⟩])
          (.cond (.tmp 68) (.seq (.ops [⟨some 0, .mov (.lit (.bool false)), none⟩])
            .ret) .skip))
         (.seq (.ops [⟨some 69, .mov (.tmp 1), none⟩,
             ⟨some 70, .mov (.tmp 69), none⟩,
             ⟨some 71, .mov (.tmp 3), some (70, true)⟩,
             ⟨some 72, .un .not (.tmp 71), some (70, true)⟩,
             ⟨some 73, .pick (.tmp 70) (.tmp 72) (.lit (.bool false)), none⟩,
             ⟨some 74, .mov (.tmp 73), none⟩,
             ⟨some 75, .mov (.tmp 5), some (74, true)⟩,
             ⟨some 76, .pick (.tmp 74) (.tmp 75) (.lit (.bool false)), none⟩,
             ⟨some 77, .mov (.tmp 76), none⟩,
             ⟨some 78, .mov (.tmp 7), some (77, true)⟩,
             ⟨some 79, .un .not (.tmp 78), some (77, true)⟩,
             ⟨some 80, .pick (.tmp 77) (.tmp 79) (.lit (.bool false)), none⟩,
             ⟨some 81, .mov (.tmp 80), none⟩,
             ⟨some 82, .mov (.tmp 9), some (81, true)⟩,
             ⟨some 83, .bslice 4 1 [.int .i64 0, .int .i64 0, .int .i64 0, .int .i64 0] [(0, .lit (.int .i64 (-1))), (1, .lit (.int .i64 (-2))), (2, .lit (.int .i64 1)), (3, .lit (.int .i64 1))], some (81, true)⟩,
             ⟨some 84, .call (.lit (.fn (.func 29) [] [])) [.tmp 83], some (81, true)⟩,
             ⟨some 85, .call (.lit (.fn (.func 16) [] [])) [.tmp 82, .tmp 84], some (81, true)⟩,
             ⟨some 86, .pick (.tmp 81) (.tmp 85) (.lit (.bool false)), none⟩,
             ⟨some 0, .mov (.tmp 86), none⟩])
          .ret)))))))))⟩
theorem ok11 : FnOK Go.Proofs.Try.prog 11 af11 := ⟨Go.Proofs.Try.f11, Go.Proofs.Try.func11, by kernel_rfl, by kernel_rfl⟩
def af12 : AFn := ⟨13, [.tmp 2], .seq (.ops [⟨some 2, .mov (.lit (.bool false)), none⟩])
 (.seq (.ops [⟨some 4, .mov (.tmp 0), none⟩,
     ⟨some 5, .call (.lit (.fn (.func 30) [] [])) [.tmp 4], none⟩,
     ⟨some 3, .mov (.tmp 5), none⟩])
  (.seq (.block 0 (.loop (.seq (.seq (.ops [⟨some 6, .mov (.tmp 3), none⟩,
          ⟨some 7, .bin .rem .no (.tmp 6) (.lit (.int .i64 2)), none⟩,
          ⟨some 8, .bin .eql .no (.tmp 7) (.lit (.int .i64 0)), none⟩])
       (.cond (.tmp 8) .skip (.exit 0)))
      (.block 1 (.ops [⟨some 9, .mov (.tmp 3), none⟩,
          ⟨some 10, .bin .quo .no (.tmp 9) (.lit (.int .i64 2)), none⟩,
          ⟨some 3, .mov (.tmp 10), none⟩])))))
   (.seq (.ops [⟨some 11, .mov (.tmp 3), none⟩,
       ⟨some 12, .bin .eql .no (.tmp 11) (.lit (.int .i64 1)), none⟩,
       ⟨some 2, .mov (.tmp 12), none⟩])
    .ret)))⟩
theorem ok12 : FnOK Go.Proofs.Try.prog 12 af12 := ⟨Go.Proofs.Try.f12, Go.Proofs.Try.func12, by kernel_rfl, by kernel_rfl⟩
def af13 : AFn := ⟨18, [.tmp 2], .seq (.ops [⟨some 2, .mov (.lit (.bool false)), none⟩])
 (.seq (.ops [⟨some 4, .mov (.tmp 0), none⟩,
     ⟨some 5, .call (.lit (.fn (.func 30) [] [])) [.tmp 4], none⟩,
     ⟨some 3, .mov (.tmp 5), none⟩])
  (.seq (.block 0 (.loop (.seq (.seq (.ops [⟨some 6, .mov (.tmp 3), none⟩,
          ⟨some 7, .bin .rem .no (.tmp 6) (.lit (.int .i64 2)), none⟩,
          ⟨some 8, .bin .eql .no (.tmp 7) (.lit (.int .i64 0)), none⟩])
       (.cond (.tmp 8) .skip (.exit 0)))
      (.block 1 (.ops [⟨some 9, .mov (.tmp 3), none⟩,
          ⟨some 10, .bin .quo .no (.tmp 9) (.lit (.int .i64 2)), none⟩,
          ⟨some 3, .mov (.tmp 10), none⟩])))))
   (.seq (.block 2 (.loop (.seq (.seq (.ops [⟨some 11, .mov (.tmp 3), none⟩,
           ⟨some 12, .bin .rem .no (.tmp 11) (.lit (.int .i64 3)), none⟩,
           ⟨some 13, .bin .eql .no (.tmp 12) (.lit (.int .i64 0)), none⟩])
        (.cond (.tmp 13) .skip (.exit 2)))
       (.block 3 (.ops [⟨some 14, .mov (.tmp 3), none⟩,
           ⟨some 15, .bin .quo .no (.tmp 14) (.lit (.int .i64 3)), none⟩,
           ⟨some 3, .mov (.tmp 15), none⟩])))))
    (.seq (.ops [⟨some 16, .mov (.tmp 3), none⟩,
        ⟨some 17, .bin .eql .no (.tmp 16) (.lit (.int .i64 1)), none⟩,
        ⟨some 2, .mov (.tmp 17), none⟩])
     .ret))))⟩
theorem ok13 : FnOK Go.Proofs.Try.prog 13 af13 := ⟨Go.Proofs.Try.f13, Go.Proofs.Try.func13, by kernel_rfl, by kernel_rfl⟩
def af14 : AFn := ⟨89, [.tmp 2, .tmp 3], .seq (.ops [⟨some 2, .mov (.lit .nils), none⟩,
    ⟨some 3, .mov (.lit (.int .i64 0)), none⟩])
 (.seq (.seq (.ops [⟨some 16, .mov (.tmp 0), none⟩,
      ⟨some 17, .call (.lit (.fn (.func 27) [] [])) [.tmp 16], none⟩,
      ⟨some 4, .mov (.tmp 17), none⟩])
   (.seq (.ops [⟨some 18, .mov (.tmp 4), none⟩,
       ⟨some 19, .bin .neq .no (.tmp 18) (.lit (.int .i64 0)), none⟩])
    (.cond (.tmp 19) (.seq (.ops [⟨some 20, .mov (.tmp 4), none⟩,
         ⟨some 2, .mov (.lit .nils), none⟩,
         ⟨some 3, .mov (.tmp 20), none⟩])
      .ret) .skip)))
  (.seq (.ops [⟨some 21, .mov (.tmp 0), none⟩,
      ⟨some 22, .call (.lit (.fn (.func 31) [] [])) [.tmp 21], none⟩,
      ⟨some 5, .mov (.tmp 22), none⟩])
   (.seq (.ops [⟨some 23, .mov (.tmp 5), none⟩,
       ⟨some 24, .len 1 (.tmp 23), none⟩,
       ⟨some 25, .bin .sub .no (.tmp 24) (.lit (.int .i64 1)), none⟩,
       ⟨some 26, .bin .quo .no (.tmp 25) (.lit (.int .i64 2)), none⟩,
       ⟨some 6, .mov (.tmp 26), none⟩])
    (.seq (.seq (.ops [⟨some 27, .mov (.tmp 6), none⟩,
         ⟨some 28, .bin .gtr .no (.tmp 27) (.lit (.int .i64 64)), none⟩])
      (.cond (.tmp 28) (.seq (.ops [⟨some 2, .mov (.lit .nils), none⟩,
           ⟨some 3, .mov (.lit (.int .i64 4)), none⟩])
        .ret) .skip))
     (.seq (.ops [⟨some 29, .bslice 1 1 [.int .i64 0] [(0, .lit (.int .i64 2))], none⟩,
         ⟨some 30, .bslice 2 1 [.int .i64 0, .int .i64 0] [(0, .lit (.int .i64 0)), (1, .lit (.int .i64 1))], none⟩,
         ⟨some 7, .mov (.tmp 29), none⟩,
         ⟨some 8, .mov (.tmp 30), none⟩])
      (.seq (.ops [⟨some 31, .mov (.tmp 6), none⟩,
          ⟨some 32, .bin .add .no (.tmp 31) (.lit (.int .i64 1)), none⟩,
          ⟨some 33, .mkslice 1 8 [.int .i64 0] (.tmp 32) (.tmp 32), none⟩,
          ⟨some 9, .mov (.tmp 33), none⟩])
       (.seq (.ops [⟨some 34, .mov (.tmp 9), none⟩,
           ⟨some 35, .mov (.tmp 5), none⟩,
           ⟨some 36, .mov (.tmp 6), none⟩,
           ⟨some 37, .iaddr none 1 (.tmp 35) (.tmp 36), none⟩,
           ⟨some 38, .load none (.tmp 37), none⟩,
           ⟨some 39, .iaddr none 1 (.tmp 34) (.lit (.int .i64 0)), none⟩,
           ⟨none, .store 1 (.tmp 39) (.tmp 38), none⟩])
        (.seq (.seq (.ops [⟨some 10, .mov (.lit (.int .i64 1)), none⟩])
          (.block 0 (.loop (.seq (.seq (.ops [⟨some 40, .mov (.tmp 10), none⟩,
                 ⟨some 41, .mov (.tmp 6), none⟩,
                 ⟨some 42, .bin .leq .no (.tmp 40) (.tmp 41), none⟩])
              (.cond (.tmp 42) .skip (.exit 0)))
             (.seq (.block 1 (.seq (.seq (.ops [⟨some 45, .mov (.tmp 8), none⟩,
                    ⟨some 46, .len 1 (.tmp 45), none⟩,
                    ⟨some 47, .mov (.lit (.int .i64 0)), none⟩])
                 (.block 2 (.loop (.seq (.ops [⟨some 48, .bin .lss .no (.tmp 47) (.tmp 46), none⟩])
                    (.seq (.cond (.tmp 48) .skip (.exit 2))
                     (.seq (.block 3 (.seq (.ops [⟨some 49, .mov (.tmp 47), none⟩,
                           ⟨some 50, .iaddr none 1 (.tmp 45) (.tmp 47), none⟩,
                           ⟨some 51, .load none (.tmp 50), none⟩,
                           ⟨some 11, .mov (.tmp 49), none⟩,
                           ⟨some 12, .mov (.tmp 51), none⟩])
                        (.draw [(⟨some 52, .mov (.tmp 9), none⟩, 0),
                           (⟨some 53, .mov (.tmp 11), none⟩, 0),
                           (⟨some 54, .iaddr none 1 (.tmp 52) (.tmp 53), none⟩, 0),
                           (⟨some 55, .load none (.tmp 54), none⟩, 0),
                           (⟨some 56, .mov (.tmp 5), none⟩, 0),
                           (⟨some 57, .mov (.tmp 6), none⟩, 0),
                           (⟨some 58, .mov (.tmp 10), none⟩, 0),
                           (⟨some 59, .bin .add .no (.tmp 57) (.tmp 58), none⟩, 0),
                           (⟨some 60, .iaddr none 1 (.tmp 56) (.tmp 59), none⟩, 0),
                           (⟨some 61, .load none (.tmp 60), none⟩, 0),
                           (⟨some 62, .mov (.tmp 12), none⟩, 0),
                           (⟨some 63, .bin .mul .no (.tmp 61) (.tmp 62), none⟩, 0),
                           (⟨some 64, .bin .add .no (.tmp 55) (.tmp 63), none⟩, 0),
                           (⟨some 65, .iaddr none 1 (.tmp 52) (.tmp 53), none⟩, 0),
                           (⟨none, .store 1 (.tmp 65) (.tmp 64), none⟩, 0)])))
                      (.ops [⟨some 66, .bin .add .no (.tmp 47) (.lit (.int .i64 1)), none⟩,
                         ⟨some 47, .mov (.tmp 66), none⟩])))))))
                (.seq (.ops [⟨some 67, .bslice 1 1 [.int .i64 0] [(0, .lit (.int .i64 0))], none⟩,
                    ⟨some 68, .mov (.tmp 8), none⟩,
                    ⟨some 69, .append 1 8 [.int .i64 0] (.tmp 67) (.tmp 68), none⟩,
                    ⟨some 13, .mov (.tmp 69), none⟩])
                 (.seq (.seq (.ops [⟨some 70, .mov (.tmp 7), none⟩,
                      ⟨some 71, .len 1 (.tmp 70), none⟩,
                      ⟨some 72, .mov (.lit (.int .i64 0)), none⟩])
                   (.block 4 (.loop (.seq (.ops [⟨some 73, .bin .lss .no (.tmp 72) (.tmp 71), none⟩])
                      (.seq (.cond (.tmp 73) .skip (.exit 4))
                       (.seq (.block 5 (.seq (.ops [⟨some 74, .mov (.tmp 72), none⟩,
                             ⟨some 75, .iaddr none 1 (.tmp 70) (.tmp 72), none⟩,
                             ⟨some 76, .load none (.tmp 75), none⟩,
                             ⟨some 14, .mov (.tmp 74), none⟩,
                             ⟨some 15, .mov (.tmp 76), none⟩])
                          (.ops [⟨some 77, .mov (.tmp 13), none⟩,
                             ⟨some 78, .mov (.tmp 14), none⟩,
                             ⟨some 79, .iaddr none 1 (.tmp 77) (.tmp 78), none⟩,
                             ⟨some 80, .load none (.tmp 79), none⟩,
                             ⟨some 81, .mov (.tmp 15), none⟩,
                             ⟨some 82, .bin .sub .no (.tmp 80) (.tmp 81), none⟩,
                             ⟨some 83, .iaddr none 1 (.tmp 77) (.tmp 78), none⟩,
                             ⟨none, .store 1 (.tmp 83) (.tmp 82), none⟩])))
                        (.ops [⟨some 84, .bin .add .no (.tmp 72) (.lit (.int .i64 1)), none⟩,
                           ⟨some 72, .mov (.tmp 84), none⟩])))))))
                  (.ops [⟨some 85, .mov (.tmp 8), none⟩,
                     ⟨some 86, .mov (.tmp 13), none⟩,
                     ⟨some 7, .mov (.tmp 85), none⟩,
                     ⟨some 8, .mov (.tmp 86), none⟩])))))
              (.ops [⟨some 43, .mov (.tmp 10), none⟩,
                 ⟨some 44, .bin .add .no (.tmp 43) (.lit (.int .i64 1)), none⟩,
                 ⟨some 10, .mov (.tmp 44), none⟩]))))))
         (.seq (.ops [⟨some 87, .mov (.tmp 9), none⟩,
             ⟨some 88, .call (.lit (.fn (.func 32) [] [])) [.tmp 87], none⟩,
             ⟨some 2, .mov (.tmp 88), none⟩,
             ⟨some 3, .mov (.lit (.int .i64 0)), none⟩])
          .ret)))))))))⟩
theorem ok14 : FnOK Go.Proofs.Try.prog 14 af14 := ⟨Go.Proofs.Try.f14, Go.Proofs.Try.func14, by kernel_rfl, by kernel_rfl⟩
def af15 : AFn := ⟨49, [.tmp 2], .seq (.ops [⟨some 2, .mov (.lit .nils), none⟩])
 (.seq (.ops [⟨some 10, .mov (.tmp 0), none⟩,
     ⟨some 11, .call (.lit (.fn (.func 33) [] [])) [.tmp 10], none⟩,
     ⟨some 3, .mov (.tmp 11), none⟩])
  (.seq (.ops [⟨some 12, .mov (.tmp 3), none⟩,
      ⟨some 13, .len 1 (.tmp 12), none⟩,
      ⟨some 14, .bin .sub .no (.tmp 13) (.lit (.int .i64 1)), none⟩,
      ⟨some 15, .bin .quo .no (.tmp 14) (.lit (.int .i64 2)), none⟩,
      ⟨some 4, .mov (.tmp 15), none⟩])
   (.seq (.ops [⟨some 16, .mov (.tmp 3), none⟩,
       ⟨some 17, .mov (.tmp 4), none⟩,
       ⟨some 18, .iaddr none 3 (.tmp 16) (.tmp 17), none⟩,
       ⟨some 19, .load (some 3) (.tmp 18), none⟩,
       ⟨some 20, .bslice 1 3 [.bool false, .str [], .str []] [(0, .tmp 19)], none⟩,
       ⟨some 21, .call (.lit (.fn (.func 34) [] [])) [.tmp 20], none⟩,
       ⟨some 5, .mov (.tmp 21), none⟩])
    (.seq (.ops [⟨some 22, .bslice 2 1 [.int .i64 0, .int .i64 0] [(0, .lit (.int .i64 0)), (1, .lit (.int .i64 1))], none⟩,
        ⟨some 23, .call (.lit (.fn (.func 29) [] [])) [.tmp 22], none⟩,
        ⟨some 6, .mov (.tmp 23), none⟩])
     (.seq (.ops [⟨some 24, .bslice 1 1 [.int .i64 0] [(0, .lit (.int .i64 2))], none⟩,
         ⟨some 25, .call (.lit (.fn (.func 29) [] [])) [.tmp 24], none⟩,
         ⟨some 26, .mov (.tmp 6), none⟩,
         ⟨some 7, .mov (.tmp 25), none⟩,
         ⟨some 8, .mov (.tmp 26), none⟩])
      (.seq (.seq (.ops [⟨some 9, .mov (.lit (.int .i64 1)), none⟩])
        (.block 0 (.loop (.seq (.seq (.ops [⟨some 27, .mov (.tmp 9), none⟩,
               ⟨some 28, .mov (.tmp 4), none⟩,
               ⟨some 29, .bin .leq .no (.tmp 27) (.tmp 28), none⟩])
            (.cond (.tmp 29) .skip (.exit 0)))
           (.seq (.block 1 (.seq (.ops [⟨some 32, .mov (.tmp 5), none⟩,
                 ⟨some 33, .mov (.tmp 8), none⟩,
                 ⟨some 34, .mov (.tmp 3), none⟩,
                 ⟨some 35, .mov (.tmp 4), none⟩,
                 ⟨some 36, .mov (.tmp 9), none⟩,
                 ⟨some 37, .bin .add .no (.tmp 35) (.tmp 36), none⟩,
                 ⟨some 38, .iaddr none 3 (.tmp 34) (.tmp 37), none⟩,
                 ⟨some 39, .load (some 3) (.tmp 38), none⟩,
                 ⟨some 40, .call (.lit (.fn (.func 36) [] [])) [.tmp 33, .tmp 39], none⟩,
                 ⟨some 41, .call (.lit (.fn (.func 35) [] [])) [.tmp 32, .tmp 40], none⟩,
                 ⟨some 5, .mov (.tmp 41), none⟩])
              (.ops [⟨some 42, .mov (.tmp 8), none⟩,
                 ⟨some 43, .mov (.tmp 6), none⟩,
                 ⟨some 44, .mov (.tmp 8), none⟩,
                 ⟨some 45, .call (.lit (.fn (.func 38) [] [])) [.tmp 43, .tmp 44], none⟩,
                 ⟨some 46, .mov (.tmp 7), none⟩,
                 ⟨some 47, .call (.lit (.fn (.func 37) [] [])) [.tmp 45, .tmp 46], none⟩,
                 ⟨some 7, .mov (.tmp 42), none⟩,
                 ⟨some 8, .mov (.tmp 47), none⟩])))
            (.ops [⟨some 30, .mov (.tmp 9), none⟩,
               ⟨some 31, .bin .add .no (.tmp 30) (.lit (.int .i64 1)), none⟩,
               ⟨some 9, .mov (.tmp 31), none⟩]))))))
       (.seq (.ops [⟨some 48, .mov (.tmp 5), none⟩,
           ⟨some 2, .mov (.tmp 48), none⟩])
        .ret)))))))⟩
theorem ok15 : FnOK Go.Proofs.Try.prog 15 af15 := ⟨Go.Proofs.Try.f15, Go.Proofs.Try.func15, by kernel_rfl, by kernel_rfl⟩
def af16 : AFn := ⟨26, [.tmp 4], .seq (.ops [⟨some 4, .mov (.lit (.bool false)), none⟩])
 (.seq (.seq (.ops [⟨some 6, .mov (.tmp 0), none⟩,
      ⟨some 7, .len 1 (.tmp 6), none⟩,
      ⟨some 8, .mov (.tmp 1), none⟩,
      ⟨some 9, .len 1 (.tmp 8), none⟩,
      ⟨some 10, .bin .neq .no (.tmp 7) (.tmp 9), none⟩])
   (.cond (.tmp 10) (.seq (.ops [⟨some 4, .mov (.lit (.bool false)), none⟩])
     .ret) .skip))
  (.seq (.seq (.ops [⟨some 11, .mov (.tmp 0), none⟩,
       ⟨some 12, .len 1 (.tmp 11), none⟩,
       ⟨some 13, .mov (.lit (.int .i64 0)), none⟩])
    (.block 0 (.loop (.seq (.ops [⟨some 14, .bin .lss .no (.tmp 13) (.tmp 12), none⟩])
       (.seq (.cond (.tmp 14) .skip (.exit 0))
        (.seq (.block 1 (.seq (.ops [⟨some 15, .mov (.tmp 13), none⟩,
              ⟨some 5, .mov (.tmp 15), none⟩])
           (.seq (.draw [(⟨some 16, .mov (.tmp 0), none⟩, 0),
               (⟨some 17, .mov (.tmp 5), none⟩, 0),
               (⟨some 18, .iaddr none 3 (.tmp 16) (.tmp 17), none⟩, 0),
               (⟨some 19, .load (some 3) (.tmp 18), none⟩, 0),
               (⟨some 20, .mov (.tmp 1), none⟩, 0),
               (⟨some 21, .mov (.tmp 5), none⟩, 0),
               (⟨some 22, .iaddr none 3 (.tmp 20) (.tmp 21), none⟩, 0),
               (⟨some 23, .load (some 3) (.tmp 22), none⟩, 0),
               (⟨some 24, .bin .neq (.flat [0, 2, 2]) (.tmp 19) (.tmp 23), none⟩, 0)])
            (.cond (.tmp 24) (.seq (.ops [⟨some 4, .mov (.lit (.bool false)), none⟩])
              .ret) .skip))))
         (.ops [⟨some 25, .bin .add .no (.tmp 13) (.lit (.int .i64 1)), none⟩,
            ⟨some 13, .mov (.tmp 25), none⟩])))))))
   (.seq (.ops [⟨some 4, .mov (.lit (.bool true)), none⟩])
    .ret)))⟩
theorem ok16 : FnOK Go.Proofs.Try.prog 16 af16 := ⟨Go.Proofs.Try.f16, Go.Proofs.Try.func16, by kernel_rfl, by kernel_rfl⟩
def af17 : AFn := ⟨34, [.tmp 2], .seq (.ops [⟨some 2, .mov (.lit .nils), none⟩])
 (.seq (.ops [⟨some 3, .mov (.lit .nils), none⟩])
  (.seq (.seq (.ops [⟨some 4, .mov (.lit (.int .i64 2)), none⟩])
    (.block 0 (.loop (.seq (.seq (.ops [⟨some 6, .mov (.tmp 0), none⟩,
           ⟨some 7, .bin .gtr .no (.tmp 6) (.lit (.int .i64 1)), none⟩])
        (.cond (.tmp 7) .skip (.exit 0)))
       (.seq (.block 1 (.seq (.seq (.ops [⟨some 10, .mov (.tmp 4), none⟩,
              ⟨some 11, .mov (.tmp 4), none⟩,
              ⟨some 12, .bin .mul .no (.tmp 10) (.tmp 11), none⟩,
              ⟨some 13, .mov (.tmp 0), none⟩,
              ⟨some 14, .bin .gtr .no (.tmp 12) (.tmp 13), none⟩])
           (.cond (.tmp 14) (.ops [⟨some 15, .mov (.tmp 0), none⟩,
               ⟨some 4, .mov (.tmp 15), none⟩]) .skip))
          (.seq (.ops [⟨some 5, .mov (.lit (.int .i64 0)), none⟩])
           (.seq (.block 2 (.loop (.seq (.seq (.ops [⟨some 16, .mov (.tmp 0), none⟩,
                   ⟨some 17, .mov (.tmp 4), none⟩,
                   ⟨some 18, .bin .rem .no (.tmp 16) (.tmp 17), none⟩,
                   ⟨some 19, .bin .eql .no (.tmp 18) (.lit (.int .i64 0)), none⟩])
                (.cond (.tmp 19) .skip (.exit 2)))
               (.block 3 (.seq (.ops [⟨some 20, .mov (.tmp 0), none⟩,
                    ⟨some 21, .mov (.tmp 4), none⟩,
                    ⟨some 22, .bin .quo .no (.tmp 20) (.tmp 21), none⟩,
                    ⟨some 0, .mov (.tmp 22), none⟩])
                 (.ops [⟨some 23, .mov (.tmp 5), none⟩,
                    ⟨some 24, .bin .add .no (.tmp 23) (.lit (.int .i64 1)), none⟩,
                    ⟨some 5, .mov (.tmp 24), none⟩]))))))
            (.seq (.ops [⟨some 25, .mov (.tmp 5), none⟩,
                ⟨some 26, .bin .gtr .no (.tmp 25) (.lit (.int .i64 0)), none⟩])
             (.cond (.tmp 26) (.ops [⟨some 27, .mov (.tmp 3), none⟩,
                 ⟨some 28, .mov (.tmp 4), none⟩,
                 ⟨some 29, .mov (.tmp 5), none⟩,
                 ⟨some 30, .build [.int .i64 0, .int .i64 0] [(0, (1, .tmp 28)), (1, (1, .tmp 29))], none⟩,
                 ⟨some 31, .bslice 1 2 [.int .i64 0, .int .i64 0] [(0, .tmp 30)], none⟩,
                 ⟨some 32, .append 2 16 [.int .i64 0, .int .i64 0] (.tmp 27) (.tmp 31), none⟩,
                 ⟨some 3, .mov (.tmp 32), none⟩]) .skip))))))
        (.ops [⟨some 8, .mov (.tmp 4), none⟩,
           ⟨some 9, .bin .add .no (.tmp 8) (.lit (.int .i64 1)), none⟩,
           ⟨some 4, .mov (.tmp 9), none⟩]))))))
   (.seq (.ops [⟨some 33, .mov (.tmp 3), none⟩,
       ⟨some 2, .mov (.tmp 33), none⟩])
    .ret)))⟩
theorem ok17 : FnOK Go.Proofs.Try.prog 17 af17 := ⟨Go.Proofs.Try.f17, Go.Proofs.Try.func17, by kernel_rfl, by kernel_rfl⟩
def af18 : AFn := ⟨18, [.tmp 2], .seq (.ops [⟨some 2, .mov (.lit (.bool false)), none⟩])
 (.seq (.ops [⟨some 4, .mov (.tmp 0), none⟩,
     ⟨some 5, .bin .sub .no (.tmp 4) (.lit (.int .i64 1)), none⟩,
     ⟨some 3, .mov (.tmp 5), none⟩])
  (.seq (.block 0 (.loop (.seq (.seq (.ops [⟨some 6, .mov (.tmp 3), none⟩,
          ⟨some 7, .bin .rem .no (.tmp 6) (.lit (.int .i64 2)), none⟩,
          ⟨some 8, .bin .eql .no (.tmp 7) (.lit (.int .i64 0)), none⟩])
       (.cond (.tmp 8) .skip (.exit 0)))
      (.block 1 (.ops [⟨some 9, .mov (.tmp 3), none⟩,
          ⟨some 10, .bin .quo .no (.tmp 9) (.lit (.int .i64 2)), none⟩,
          ⟨some 3, .mov (.tmp 10), none⟩])))))
   (.seq (.block 2 (.loop (.seq (.seq (.ops [⟨some 11, .mov (.tmp 3), none⟩,
           ⟨some 12, .bin .rem .no (.tmp 11) (.lit (.int .i64 3)), none⟩,
           ⟨some 13, .bin .eql .no (.tmp 12) (.lit (.int .i64 0)), none⟩])
        (.cond (.tmp 13) .skip (.exit 2)))
       (.block 3 (.ops [⟨some 14, .mov (.tmp 3), none⟩,
           ⟨some 15, .bin .quo .no (.tmp 14) (.lit (.int .i64 3)), none⟩,
           ⟨some 3, .mov (.tmp 15), none⟩])))))
    (.seq (.ops [⟨some 16, .mov (.tmp 3), none⟩,
        ⟨some 17, .bin .eql .no (.tmp 16) (.lit (.int .i64 1)), none⟩,
        ⟨some 2, .mov (.tmp 17), none⟩])
     .ret))))⟩
theorem ok18 : FnOK Go.Proofs.Try.prog 18 af18 := ⟨Go.Proofs.Try.f18, Go.Proofs.Try.func18, by kernel_rfl, by kernel_rfl⟩
def af19 : AFn := ⟨12, [.tmp 4], .seq (.ops [⟨some 4, .mov (.lit (.int .i64 0)), none⟩])
 (.seq (.block 0 (.loop (.seq (.seq (.ops [⟨some 5, .mov (.tmp 1), none⟩,
         ⟨some 6, .bin .gtr .no (.tmp 5) (.lit (.int .i64 0)), none⟩])
      (.cond (.tmp 6) .skip (.exit 0)))
     (.block 1 (.draw [(⟨some 7, .mov (.tmp 1), none⟩, 0),
         (⟨some 8, .mov (.tmp 0), none⟩, 0),
         (⟨some 9, .mov (.tmp 1), none⟩, 0),
         (⟨some 10, .bin .rem .no (.tmp 8) (.tmp 9), none⟩, 0),
         (⟨some 0, .mov (.tmp 7), none⟩, 0),
         (⟨some 1, .mov (.tmp 10), none⟩, 0)])))))
  (.seq (.ops [⟨some 11, .mov (.tmp 0), none⟩,
      ⟨some 4, .mov (.tmp 11), none⟩])
   .ret))⟩
theorem ok19 : FnOK Go.Proofs.Try.prog 19 af19 := ⟨Go.Proofs.Try.f19, Go.Proofs.Try.func19, by kernel_rfl, by kernel_rfl⟩
def af20 : AFn := ⟨34, [.tmp 2, .tmp 3], .seq (.ops [⟨some 2, .mov (.lit .nils), none⟩,
    ⟨some 3, .mov (.lit (.int .i64 0)), none⟩])
 (.seq (.seq (.ops [⟨some 9, .mov (.tmp 0), none⟩,
      ⟨some 10, .call (.lit (.fn (.func 27) [] [])) [.tmp 9], none⟩,
      ⟨some 4, .mov (.tmp 10), none⟩])
   (.seq (.ops [⟨some 11, .mov (.tmp 4), none⟩,
       ⟨some 12, .bin .neq .no (.tmp 11) (.lit (.int .i64 0)), none⟩])
    (.cond (.tmp 12) (.seq (.ops [⟨some 13, .mov (.tmp 4), none⟩,
         ⟨some 2, .mov (.lit .nils), none⟩,
         ⟨some 3, .mov (.tmp 13), none⟩])
      .ret) .skip)))
  (.seq (.seq (.ops [⟨some 14, .mov (.tmp 0), none⟩,
       ⟨some 15, .bslice 1 1 [.int .i64 0] [(0, .lit (.int .i64 2))], none⟩,
       ⟨some 16, .call (.lit (.fn (.func 28) [] [])) [.tmp 14, .tmp 15], none⟩,
       ⟨some 17, .un .not (.tmp 16), none⟩])
    (.cond (.tmp 17) (.seq (.ops [⟨some 2, .mov (.lit .nils), none⟩,
         ⟨some 3, .mov (.lit (.int .i64 10)), none⟩])
      .ret) .skip))
   (.seq (.seq (.ops [⟨some 19, .mov (.tmp 0), none⟩,
        ⟨some 20, .call (.lit (.fn (.func 39) [] [])) [.tmp 19], none⟩,
        ⟨some 18, .mov (.tmp 20), none⟩,
        ⟨some 21, .extr 0 (.tmp 18), none⟩,
        ⟨some 22, .extr 1 (.tmp 18), none⟩,
        ⟨some 23, .extr 2 (.tmp 18), none⟩,
        ⟨some 5, .mov (.tmp 21), none⟩,
        ⟨some 6, .mov (.tmp 22), none⟩,
        ⟨some 7, .mov (.tmp 23), none⟩])
     (.seq (.ops [⟨some 24, .mov (.tmp 5), none⟩,
         ⟨some 25, .un .not (.tmp 24), none⟩])
      (.cond (.tmp 25) (.seq (.ops [⟨some 2, .mov (.lit .nils), none⟩,
           ⟨some 3, .mov (.lit (.int .i64 17)), none⟩])
        .ret) .skip)))
    (.seq (.ops [⟨some 26, .call (.lit (.fn (.func 40) [] [])) [], none⟩,
        ⟨some 8, .mov (.tmp 26), none⟩])
     (.seq (.ops [⟨some 27, .mov (.tmp 8), none⟩,
         ⟨some 28, .mov (.tmp 0), none⟩,
         ⟨some 29, .call (.lit (.fn (.func 41) [] [])) [.tmp 27, .tmp 28], none⟩])
      (.seq (.ops [⟨some 30, .mov (.tmp 8), none⟩,
          ⟨some 31, .nilck (.tmp 30), none⟩,
          ⟨some 32, .faddr 0 (.tmp 31), none⟩,
          ⟨some 33, .load none (.tmp 32), none⟩,
          ⟨some 2, .mov (.tmp 33), none⟩,
          ⟨some 3, .mov (.lit (.int .i64 0)), none⟩])
       .ret))))))⟩
theorem ok20 : FnOK Go.Proofs.Try.prog 20 af20 := ⟨Go.Proofs.Try.f20, Go.Proofs.Try.func20, by kernel_rfl, by kernel_rfl⟩
def af21 : AFn := ⟨44, [.tmp 2, .tmp 3], .seq (.ops [⟨some 2, .mov (.lit .nils), none⟩,
    ⟨some 3, .mov (.lit (.int .i64 0)), none⟩])
 (.seq (.seq (.ops [⟨some 11, .mov (.tmp 0), none⟩,
      ⟨some 12, .call (.lit (.fn (.func 27) [] [])) [.tmp 11], none⟩,
      ⟨some 4, .mov (.tmp 12), none⟩])
   (.seq (.ops [⟨some 13, .mov (.tmp 4), none⟩,
       ⟨some 14, .bin .neq .no (.tmp 13) (.lit (.int .i64 0)), none⟩])
    (.cond (.tmp 14) (.seq (.ops [⟨some 15, .mov (.tmp 4), none⟩,
         ⟨some 2, .mov (.lit .nils), none⟩,
         ⟨some 3, .mov (.tmp 15), none⟩])
      .ret) .skip)))
  (.seq (.seq (.ops [⟨some 16, .mov (.tmp 0), none⟩,
       ⟨some 17, .bslice 1 1 [.int .i64 0] [(0, .lit (.int .i64 2))], none⟩,
       ⟨some 18, .call (.lit (.fn (.func 28) [] [])) [.tmp 16, .tmp 17], none⟩,
       ⟨some 19, .un .not (.tmp 18), none⟩])
    (.cond (.tmp 19) (.seq (.ops [⟨some 2, .mov (.lit .nils), none⟩,
         ⟨some 3, .mov (.lit (.int .i64 10)), none⟩])
      .ret) .skip))
   (.seq (.seq (.ops [⟨some 21, .mov (.tmp 0), none⟩,
        ⟨some 22, .call (.lit (.fn (.func 39) [] [])) [.tmp 21], none⟩,
        ⟨some 20, .mov (.tmp 22), none⟩,
        ⟨some 23, .extr 0 (.tmp 20), none⟩,
        ⟨some 24, .extr 1 (.tmp 20), none⟩,
        ⟨some 25, .extr 2 (.tmp 20), none⟩,
        ⟨some 5, .mov (.tmp 23), none⟩,
        ⟨some 6, .mov (.tmp 24), none⟩,
        ⟨some 7, .mov (.tmp 25), none⟩])
     (.seq (.ops [⟨some 26, .mov (.tmp 6), none⟩,
         ⟨some 27, .un .not (.tmp 26), none⟩])
      (.cond (.tmp 27) (.seq (.ops [⟨some 2, .mov (.lit .nils), none⟩,
           ⟨some 3, .mov (.lit (.int .i64 17)), none⟩])
        .ret) .skip)))
    (.seq (.ops [⟨some 28, .call (.lit (.fn (.func 40) [] [])) [], none⟩,
        ⟨some 8, .mov (.tmp 28), none⟩])
     (.seq (.ops [⟨some 30, .mov (.tmp 8), none⟩,
         ⟨some 31, .mov (.tmp 8), none⟩,
         ⟨some 32, .mov (.tmp 0), none⟩,
         ⟨some 33, .call (.lit (.fn (.func 41) [] [])) [.tmp 31, .tmp 32], none⟩,
         ⟨some 34, .call (.lit (.fn (.func 42) [] [])) [.tmp 30, .tmp 33], none⟩,
         ⟨some 29, .mov (.tmp 34), none⟩,
         ⟨some 35, .extr 0 (.tmp 29), none⟩,
         ⟨some 36, .extr 1 (.tmp 29), none⟩,
         ⟨some 9, .mov (.tmp 35), none⟩,
         ⟨some 10, .mov (.tmp 36), none⟩])
      (.seq (.ops [⟨some 37, .mov (.tmp 8), none⟩,
          ⟨some 38, .mov (.tmp 0), none⟩,
          ⟨some 39, .mov (.tmp 8), none⟩,
          ⟨some 40, .mov (.tmp 9), none⟩,
          ⟨some 41, .mov (.tmp 10), none⟩,
          ⟨some 42, .call (.lit (.fn (.func 44) [] [])) [.tmp 39, .tmp 40, .tmp 41], none⟩,
          ⟨some 43, .call (.lit (.fn (.func 43) [] [])) [.tmp 37, .tmp 38, .tmp 42], none⟩,
          ⟨some 2, .mov (.tmp 43), none⟩,
          ⟨some 3, .mov (.lit (.int .i64 0)), none⟩])
       .ret))))))⟩
theorem ok21 : FnOK Go.Proofs.Try.prog 21 af21 := ⟨Go.Proofs.Try.f21, Go.Proofs.Try.func21, by kernel_rfl, by kernel_rfl⟩
def af22 : AFn := ⟨51, [.tmp 2, .tmp 3], .seq (.ops [⟨some 2, .mov (.lit .nils), none⟩,
    ⟨some 3, .mov (.lit (.int .i64 0)), none⟩])
 (.seq (.seq (.ops [⟨some 11, .mov (.tmp 0), none⟩,
      ⟨some 12, .call (.lit (.fn (.func 27) [] [])) [.tmp 11], none⟩,
      ⟨some 4, .mov (.tmp 12), none⟩])
   (.seq (.ops [⟨some 13, .mov (.tmp 4), none⟩,
       ⟨some 14, .bin .neq .no (.tmp 13) (.lit (.int .i64 0)), none⟩])
    (.cond (.tmp 14) (.seq (.ops [⟨some 15, .mov (.tmp 4), none⟩,
         ⟨some 2, .mov (.lit .nils), none⟩,
         ⟨some 3, .mov (.tmp 15), none⟩])
      .ret) .skip)))
  (.seq (.seq (.ops [⟨some 16, .mov (.tmp 0), none⟩,
       ⟨some 17, .bslice 2 1 [.int .i64 0, .int .i64 0] [(0, .lit (.int .i64 2)), (1, .lit (.int .i64 3))], none⟩,
       ⟨some 18, .call (.lit (.fn (.func 28) [] [])) [.tmp 16, .tmp 17], none⟩,
       ⟨some 19, .un .not (.tmp 18), none⟩])
    (.cond (.tmp 19) (.seq (.ops [⟨some 2, .mov (.lit .nils), none⟩,
         ⟨some 3, .mov (.lit (.int .i64 10)), none⟩])
      .ret) .skip))
   (.seq (.seq (.ops [⟨some 21, .mov (.tmp 0), none⟩,
        ⟨some 22, .call (.lit (.fn (.func 39) [] [])) [.tmp 21], none⟩,
        ⟨some 20, .mov (.tmp 22), none⟩,
        ⟨some 23, .extr 0 (.tmp 20), none⟩,
        ⟨some 24, .extr 1 (.tmp 20), none⟩,
        ⟨some 25, .extr 2 (.tmp 20), none⟩,
        ⟨some 5, .mov (.tmp 23), none⟩,
        ⟨some 6, .mov (.tmp 24), none⟩,
        ⟨some 7, .mov (.tmp 25), none⟩])
     (.block 0 (.seq (.ops [⟨some 27, .mov (.tmp 6), none⟩,
          ⟨some 26, .mov (.tmp 27), none⟩])
       (.cond (.tmp 26) (.seq (.ops [⟨some 28, .mov (.tmp 0), none⟩,
            ⟨some 29, .call (.lit (.fn (.func 21) [] [])) [.tmp 28], none⟩,
            ⟨some 30, .extr 0 (.tmp 29), none⟩,
            ⟨some 31, .extr 1 (.tmp 29), none⟩,
            ⟨some 2, .mov (.tmp 30), none⟩,
            ⟨some 3, .mov (.tmp 31), none⟩])
         .ret) (.seq (.ops [⟨some 33, .mov (.tmp 7), none⟩,
            ⟨some 34, .un .not (.tmp 33), none⟩,
            ⟨some 32, .mov (.tmp 34), none⟩])
         (.cond (.tmp 32) (.seq (.ops [⟨some 2, .mov (.lit .nils), none⟩,
              ⟨some 3, .mov (.lit (.int .i64 17)), none⟩])
           .ret) .skip))))))
    (.seq (.ops [⟨some 35, .call (.lit (.fn (.func 40) [] [])) [], none⟩,
        ⟨some 8, .mov (.tmp 35), none⟩])
     (.seq (.ops [⟨some 37, .mov (.tmp 8), none⟩,
         ⟨some 38, .mov (.tmp 8), none⟩,
         ⟨some 39, .mov (.tmp 0), none⟩,
         ⟨some 40, .call (.lit (.fn (.func 45) [] [])) [.tmp 38, .tmp 39], none⟩,
         ⟨some 41, .call (.lit (.fn (.func 42) [] [])) [.tmp 37, .tmp 40], none⟩,
         ⟨some 36, .mov (.tmp 41), none⟩,
         ⟨some 42, .extr 0 (.tmp 36), none⟩,
         ⟨some 43, .extr 1 (.tmp 36), none⟩,
         ⟨some 9, .mov (.tmp 42), none⟩,
         ⟨some 10, .mov (.tmp 43), none⟩])
      (.seq (.ops [⟨some 44, .mov (.tmp 8), none⟩,
          ⟨some 45, .mov (.tmp 0), none⟩,
          ⟨some 46, .mov (.tmp 8), none⟩,
          ⟨some 47, .mov (.tmp 9), none⟩,
          ⟨some 48, .mov (.tmp 10), none⟩,
          ⟨some 49, .call (.lit (.fn (.func 44) [] [])) [.tmp 46, .tmp 47, .tmp 48], none⟩,
          ⟨some 50, .call (.lit (.fn (.func 43) [] [])) [.tmp 44, .tmp 45, .tmp 49], none⟩,
          ⟨some 2, .mov (.tmp 50), none⟩,
          ⟨some 3, .mov (.lit (.int .i64 0)), none⟩])
       .ret))))))⟩
theorem ok22 : FnOK Go.Proofs.Try.prog 22 af22 := ⟨Go.Proofs.Try.f22, Go.Proofs.Try.func22, by kernel_rfl, by kernel_rfl⟩
def af23 : AFn := ⟨5, [.tmp 2], .seq (.ops [⟨some 2, .mov (.lit (.int .i64 0)), none⟩])
 (.seq (.ops [⟨some 3, .mov (.tmp 0), none⟩,
     ⟨some 4, .call (.lit (.fn (.func 46) [] [])) [.tmp 3, .lit (.int .i64 20)], none⟩,
     ⟨some 2, .mov (.tmp 4), none⟩])
  .ret)⟩
theorem ok23 : FnOK Go.Proofs.Try.prog 23 af23 := ⟨Go.Proofs.Try.f23, Go.Proofs.Try.func23, by kernel_rfl, by kernel_rfl⟩
def af24 : AFn := ⟨5, [.tmp 2], .seq (.ops [⟨some 2, .mov (.lit (.int .i64 0)), none⟩])
 (.seq (.ops [⟨some 3, .mov (.tmp 0), none⟩,
     ⟨some 4, .call (.lit (.fn (.func 46) [] [])) [.tmp 3, .lit (.int .i64 16)], none⟩,
     ⟨some 2, .mov (.tmp 4), none⟩])
  .ret)⟩
theorem ok24 : FnOK Go.Proofs.Try.prog 24 af24 := ⟨Go.Proofs.Try.f24, Go.Proofs.Try.func24, by kernel_rfl, by kernel_rfl⟩
def af25 : AFn := ⟨27, [.tmp 2], .seq (.ops [⟨some 2, .mov (.lit (.int .i64 0)), none⟩])
 (.seq (.block 0 (.seq (.ops [⟨some 4, .mov (.tmp 0), none⟩,
       ⟨some 5, .call (.lit (.fn (.func 10) [] [])) [.tmp 4], none⟩,
       ⟨some 6, .bin .neq .no (.tmp 5) (.lit (.int .i64 0)), none⟩,
       ⟨some 3, .mov (.tmp 6), none⟩])
    (.cond (.tmp 3) (.seq (.ops [⟨some 2, .mov (.lit (.int .i64 3)), none⟩])
      .ret) (.seq (.ops [⟨some 8, .mov (.tmp 0), none⟩,
         ⟨some 9, .call (.lit (.fn (.func 13) [] [])) [.tmp 8], none⟩,
         ⟨some 10, .un .not (.tmp 9), none⟩,
         ⟨some 7, .mov (.tmp 10), none⟩])
      (.cond (.tmp 7) (.seq (.ops [⟨some 2, .mov (.lit (.int .i64 10)), none⟩])
        .ret) (.seq (.ops [⟨some 12, .mov (.tmp 0), none⟩,
           ⟨some 13, .call (.lit (.fn (.func 24) [] [])) [.tmp 12], none⟩,
           ⟨some 14, .bin .eql .no (.tmp 13) (.lit (.int .i64 0)), none⟩,
           ⟨some 15, .mov (.tmp 14), none⟩,
           ⟨some 16, .mov (.tmp 0), some (15, false)⟩,
           ⟨some 17, .bin .eql .no (.tmp 16) (.lit (.int .i64 7)), some (15, false)⟩,
           ⟨some 18, .pick (.tmp 15) (.lit (.bool true)) (.tmp 17), none⟩,
           ⟨some 19, .mov (.tmp 18), none⟩,
           ⟨some 20, .mov (.tmp 0), some (19, false)⟩,
           ⟨some 21, .bin .eql .no (.tmp 20) (.lit (.int .i64 9)), some (19, false)⟩,
           ⟨some 22, .pick (.tmp 19) (.lit (.bool true)) (.tmp 21), none⟩,
           ⟨some 23, .mov (.tmp 22), none⟩,
           ⟨some 24, .mov (.tmp 0), some (23, false)⟩,
           ⟨some 25, .bin .eql .no (.tmp 24) (.lit (.int .i64 14)), some (23, false)⟩,
           ⟨some 26, .pick (.tmp 23) (.lit (.bool true)) (.tmp 25), none⟩,
           ⟨some 11, .mov (.tmp 26), none⟩])
        (.cond (.tmp 11) (.seq (.ops [⟨some 2, .mov (.lit (.int .i64 0)), none⟩])
          .ret) .skip)))))))
  (.seq (.ops [⟨some 2, .mov (.lit (.int .i64 17)), none⟩])
   .ret))⟩
theorem ok25 : FnOK Go.Proofs.Try.prog 25 af25 := ⟨Go.Proofs.Try.f25, Go.Proofs.Try.func25, by kernel_rfl, by kernel_rfl⟩
def af26 : AFn := ⟨35, [.tmp 4], .seq (.ops [⟨some 4, .mov (.lit (.bool false)), none⟩])
 (.seq (.seq (.ops [⟨some 5, .mov (.lit (.int .i64 0)), none⟩])
   (.block 0 (.loop (.seq (.seq (.ops [⟨some 6, .mov (.tmp 5), none⟩,
          ⟨some 7, .mov (.tmp 0), none⟩,
          ⟨some 8, .len 1 (.tmp 7), none⟩,
          ⟨some 9, .bin .lss .no (.tmp 6) (.tmp 8), none⟩])
       (.cond (.tmp 9) .skip (.exit 0)))
      (.seq (.block 1 (.seq (.ops [⟨some 12, .mov (.tmp 0), none⟩,
            ⟨some 13, .mov (.tmp 5), none⟩,
            ⟨some 14, .iaddr none 6 (.tmp 12) (.tmp 13), none⟩,
            ⟨some 15, .faddr 0 (.tmp 14), none⟩,
            ⟨some 16, .load none (.tmp 15), none⟩,
            ⟨some 17, .bin .lss .no (.tmp 16) (.lit (.int .i64 0)), none⟩,
            ⟨some 18, .mov (.tmp 17), none⟩,
            ⟨some 19, .mov (.tmp 0), some (18, false)⟩,
            ⟨some 20, .mov (.tmp 5), some (18, false)⟩,
            ⟨some 21, .iaddr none 6 (.tmp 19) (.tmp 20), some (18, false)⟩,
            ⟨some 22, .faddr 0 (.tmp 21), some (18, false)⟩,
            ⟨some 23, .load none (.tmp 22), some (18, false)⟩,
            ⟨some 24, .bin .gtr .no (.tmp 23) (.lit (.int .i64 3)), some (18, false)⟩,
            ⟨some 25, .pick (.tmp 18) (.lit (.bool true)) (.tmp 24), none⟩])
         (.cond (.tmp 25) (.seq (.ops [⟨some 4, .mov (.lit (.bool false)), none⟩])
           .ret) .skip)))
       (.ops [⟨some 10, .mov (.tmp 5), none⟩,
          ⟨some 11, .bin .add .no (.tmp 10) (.lit (.int .i64 1)), none⟩,
          ⟨some 5, .mov (.tmp 11), none⟩]))))))
  (.seq (.ops [⟨some 26, .mov (.tmp 0), none⟩,
      ⟨some 27, .len 1 (.tmp 26), none⟩,
      ⟨some 28, .bin .gtr .no (.tmp 27) (.lit (.int .i64 0)), none⟩,
      ⟨some 29, .mov (.tmp 28), none⟩,
      ⟨some 30, .mov (.tmp 0), some (29, true)⟩,
      ⟨some 31, .len 1 (.tmp 30), some (29, true)⟩,
      ⟨some 32, .mov (.tmp 1), some (29, true)⟩,
      ⟨some 33, .bin .leq .no (.tmp 31) (.tmp 32), some (29, true)⟩,
      ⟨some 34, .pick (.tmp 29) (.tmp 33) (.lit (.bool false)), none⟩,
      ⟨some 4, .mov (.tmp 34), none⟩])
   .ret))⟩
theorem ok26 : FnOK Go.Proofs.Try.prog 26 af26 := ⟨Go.Proofs.Try.f26, Go.Proofs.Try.func26, by kernel_rfl, by kernel_rfl⟩
def af27 : AFn := ⟨9, [.tmp 2], .seq (.ops [⟨some 2, .mov (.lit (.int .i64 0)), none⟩])
 (.seq (.seq (.ops [⟨some 3, .mov (.tmp 0), none⟩,
      ⟨some 4, .bin .lss .no (.tmp 3) (.lit (.int .i64 3)), none⟩,
      ⟨some 5, .mov (.tmp 4), none⟩,
      ⟨some 6, .mov (.tmp 0), some (5, false)⟩,
      ⟨some 7, .bin .gtr .no (.tmp 6) (.lit (.int .i64 256)), some (5, false)⟩,
      ⟨some 8, .pick (.tmp 5) (.lit (.bool true)) (.tmp 7), none⟩])
   (.cond (.tmp 8) (.seq (.ops [⟨some 2, .mov (.lit (.int .i64 3)), none⟩])
     .ret) .skip))
  (.seq (.ops [⟨some 2, .mov (.lit (.int .i64 0)), none⟩])
   .ret))⟩
theorem ok27 : FnOK Go.Proofs.Try.prog 27 af27 := ⟨Go.Proofs.Try.f27, Go.Proofs.Try.func27, by kernel_rfl, by kernel_rfl⟩
def af28 : AFn := ⟨30, [.tmp 4], .seq (.ops [⟨some 4, .mov (.lit (.bool false)), none⟩])
 (.seq (.ops [⟨some 10, .mov (.tmp 0), none⟩,
     ⟨some 11, .call (.lit (.fn (.func 47) [] [])) [.tmp 10], none⟩,
     ⟨some 9, .mov (.tmp 11), none⟩,
     ⟨some 12, .extr 0 (.tmp 9), none⟩,
     ⟨some 13, .extr 1 (.tmp 9), none⟩,
     ⟨some 5, .mov (.tmp 12), none⟩,
     ⟨some 6, .mov (.tmp 13), none⟩])
  (.seq (.seq (.ops [⟨some 14, .mov (.tmp 1), none⟩,
       ⟨some 15, .len 1 (.tmp 14), none⟩,
       ⟨some 16, .mov (.lit (.int .i64 0)), none⟩])
    (.block 0 (.loop (.seq (.ops [⟨some 17, .bin .lss .no (.tmp 16) (.tmp 15), none⟩])
       (.seq (.cond (.tmp 17) .skip (.exit 0))
        (.seq (.block 1 (.seq (.ops [⟨some 18, .iaddr none 1 (.tmp 14) (.tmp 16), none⟩,
              ⟨some 19, .load none (.tmp 18), none⟩,
              ⟨some 8, .mov (.tmp 19), none⟩])
           (.block 2 (.loop (.seq (.seq (.ops [⟨some 20, .mov (.tmp 5), none⟩,
                  ⟨some 21, .mov (.tmp 8), none⟩,
                  ⟨some 22, .bin .rem .no (.tmp 20) (.tmp 21), none⟩,
                  ⟨some 23, .bin .eql .no (.tmp 22) (.lit (.int .i64 0)), none⟩])
               (.cond (.tmp 23) .skip (.exit 2)))
              (.block 3 (.ops [⟨some 24, .mov (.tmp 5), none⟩,
                  ⟨some 25, .mov (.tmp 8), none⟩,
                  ⟨some 26, .bin .quo .no (.tmp 24) (.tmp 25), none⟩,
                  ⟨some 5, .mov (.tmp 26), none⟩])))))))
         (.ops [⟨some 27, .bin .add .no (.tmp 16) (.lit (.int .i64 1)), none⟩,
            ⟨some 16, .mov (.tmp 27), none⟩])))))))
   (.seq (.ops [⟨some 28, .mov (.tmp 5), none⟩,
       ⟨some 29, .bin .eql .no (.tmp 28) (.lit (.int .i64 1)), none⟩,
       ⟨some 4, .mov (.tmp 29), none⟩])
    .ret)))⟩
theorem ok28 : FnOK Go.Proofs.Try.prog 28 af28 := ⟨Go.Proofs.Try.f28, Go.Proofs.Try.func28, by kernel_rfl, by kernel_rfl⟩
def af29 : AFn := ⟨20, [.tmp 2], .seq (.ops [⟨some 2, .mov (.lit .nils), none⟩])
 (.seq (.ops [⟨some 3, .mov (.lit .nils), none⟩])
  (.seq (.seq (.ops [⟨some 6, .mov (.tmp 0), none⟩,
       ⟨some 7, .len 1 (.tmp 6), none⟩,
       ⟨some 8, .mov (.lit (.int .i64 0)), none⟩])
    (.block 0 (.loop (.seq (.ops [⟨some 9, .bin .lss .no (.tmp 8) (.tmp 7), none⟩])
       (.seq (.cond (.tmp 9) .skip (.exit 0))
        (.seq (.block 1 (.seq (.ops [⟨some 10, .iaddr none 1 (.tmp 6) (.tmp 8), none⟩,
              ⟨some 11, .load none (.tmp 10), none⟩,
              ⟨some 5, .mov (.tmp 11), none⟩])
           (.ops [⟨some 12, .mov (.tmp 3), none⟩,
              ⟨some 13, .mov (.tmp 5), none⟩,
              ⟨some 14, .call (.lit (.fn (.func 48) [] [])) [.tmp 13], none⟩,
              ⟨some 15, .bslice 1 3 [.bool false, .str [], .str []] [(0, .tmp 14)], none⟩,
              ⟨some 16, .append 3 40 [.bool false, .str [], .str []] (.tmp 12) (.tmp 15), none⟩,
              ⟨some 3, .mov (.tmp 16), none⟩])))
         (.ops [⟨some 17, .bin .add .no (.tmp 8) (.lit (.int .i64 1)), none⟩,
            ⟨some 8, .mov (.tmp 17), none⟩])))))))
   (.seq (.ops [⟨some 18, .mov (.tmp 3), none⟩,
       ⟨some 19, .call (.lit (.fn (.func 34) [] [])) [.tmp 18], none⟩,
       ⟨some 2, .mov (.tmp 19), none⟩])
    .ret)))⟩
theorem ok29 : FnOK Go.Proofs.Try.prog 29 af29 := ⟨Go.Proofs.Try.f29, Go.Proofs.Try.func29, by kernel_rfl, by kernel_rfl⟩
def af30 : AFn := ⟨40, [.tmp 2], .seq (.ops [⟨some 2, .mov (.lit (.int .i64 0)), none⟩])
 (.seq (.ops [⟨some 3, .mov (.lit (.int .i64 1)), none⟩])
  (.seq (.ops [⟨some 7, .mov (.tmp 0), none⟩,
      ⟨some 8, .call (.lit (.fn (.func 17) [] [])) [.tmp 7], none⟩,
      ⟨some 4, .mov (.tmp 8), none⟩])
   (.seq (.seq (.ops [⟨some 5, .mov (.lit (.int .i64 0)), none⟩])
     (.block 0 (.loop (.seq (.seq (.ops [⟨some 9, .mov (.tmp 5), none⟩,
            ⟨some 10, .mov (.tmp 4), none⟩,
            ⟨some 11, .len 1 (.tmp 10), none⟩,
            ⟨some 12, .bin .lss .no (.tmp 9) (.tmp 11), none⟩])
         (.cond (.tmp 12) .skip (.exit 0)))
        (.seq (.block 1 (.seq (.ops [⟨some 15, .mov (.tmp 3), none⟩,
              ⟨some 16, .mov (.tmp 4), none⟩,
              ⟨some 17, .mov (.tmp 5), none⟩,
              ⟨some 18, .iaddr none 2 (.tmp 16) (.tmp 17), none⟩,
              ⟨some 19, .faddr 0 (.tmp 18), none⟩,
              ⟨some 20, .load none (.tmp 19), none⟩,
              ⟨some 21, .bin .sub .no (.tmp 20) (.lit (.int .i64 1)), none⟩,
              ⟨some 22, .bin .mul .no (.tmp 15) (.tmp 21), none⟩,
              ⟨some 3, .mov (.tmp 22), none⟩])
           (.seq (.ops [⟨some 6, .mov (.lit (.int .i64 1)), none⟩])
            (.block 2 (.loop (.seq (.seq (.ops [⟨some 23, .mov (.tmp 6), none⟩,
                   ⟨some 24, .mov (.tmp 4), none⟩,
                   ⟨some 25, .mov (.tmp 5), none⟩,
                   ⟨some 26, .iaddr none 2 (.tmp 24) (.tmp 25), none⟩,
                   ⟨some 27, .faddr 1 (.tmp 26), none⟩,
                   ⟨some 28, .load none (.tmp 27), none⟩,
                   ⟨some 29, .bin .lss .no (.tmp 23) (.tmp 28), none⟩])
                (.cond (.tmp 29) .skip (.exit 2)))
               (.seq (.block 3 (.ops [⟨some 32, .mov (.tmp 3), none⟩,
                    ⟨some 33, .mov (.tmp 4), none⟩,
                    ⟨some 34, .mov (.tmp 5), none⟩,
                    ⟨some 35, .iaddr none 2 (.tmp 33) (.tmp 34), none⟩,
                    ⟨some 36, .faddr 0 (.tmp 35), none⟩,
                    ⟨some 37, .load none (.tmp 36), none⟩,
                    ⟨some 38, .bin .mul .no (.tmp 32) (.tmp 37), none⟩,
                    ⟨some 3, .mov (.tmp 38), none⟩]))
                (.ops [⟨some 30, .mov (.tmp 6), none⟩,
                   ⟨some 31, .bin .add .no (.tmp 30) (.lit (.int .i64 1)), none⟩,
                   ⟨some 6, .mov (.tmp 31), none⟩]))))))))
         (.ops [⟨some 13, .mov (.tmp 5), none⟩,
            ⟨some 14, .bin .add .no (.tmp 13) (.lit (.int .i64 1)), none⟩,
            ⟨some 5, .mov (.tmp 14), none⟩]))))))
    (.seq (.ops [⟨some 39, .mov (.tmp 3), none⟩,
        ⟨some 2, .mov (.tmp 39), none⟩])
     .ret))))⟩
theorem ok30 : FnOK Go.Proofs.Try.prog 30 af30 := ⟨Go.Proofs.Try.f30, Go.Proofs.Try.func30, by kernel_rfl, by kernel_rfl⟩
def af31 : AFn := ⟨78, [.tmp 2], .seq (.ops [⟨some 2, .mov (.lit .nils), none⟩])
 (.seq (.ops [⟨some 10, .mov (.tmp 0), none⟩,
     ⟨some 11, .bin .add .no (.tmp 10) (.lit (.int .i64 1)), none⟩,
     ⟨some 12, .mkslice 1 8 [.int .i64 0] (.tmp 11) (.tmp 11), none⟩,
     ⟨some 3, .mov (.tmp 12), none⟩])
  (.seq (.ops [⟨some 13, .mov (.tmp 3), none⟩,
      ⟨some 14, .mov (.tmp 3), none⟩,
      ⟨some 15, .mov (.tmp 0), none⟩,
      ⟨some 16, .iaddr none 1 (.tmp 13) (.lit (.int .i64 0)), none⟩,
      ⟨none, .store 1 (.tmp 16) (.lit (.int .i64 (-1))), none⟩,
      ⟨some 17, .iaddr none 1 (.tmp 14) (.tmp 15), none⟩,
      ⟨none, .store 1 (.tmp 17) (.lit (.int .i64 1)), none⟩])
   (.seq (.seq (.ops [⟨some 4, .mov (.lit (.int .i64 1)), none⟩])
     (.block 0 (.loop (.seq (.seq (.ops [⟨some 18, .mov (.tmp 4), none⟩,
            ⟨some 19, .mov (.tmp 0), none⟩,
            ⟨some 20, .bin .lss .no (.tmp 18) (.tmp 19), none⟩])
         (.cond (.tmp 20) .skip (.exit 0)))
        (.seq (.block 1 (.seq (.seq (.ops [⟨some 23, .mov (.tmp 0), none⟩,
               ⟨some 24, .mov (.tmp 4), none⟩,
               ⟨some 25, .bin .rem .no (.tmp 23) (.tmp 24), none⟩,
               ⟨some 26, .bin .gtr .no (.tmp 25) (.lit (.int .i64 0)), none⟩])
            (.cond (.tmp 26) (.exit 1) .skip))
           (.seq (.ops [⟨some 27, .mov (.tmp 4), none⟩,
               ⟨some 28, .call (.lit (.fn (.func 31) [] [])) [.tmp 27], none⟩,
               ⟨some 5, .mov (.tmp 28), none⟩])
            (.seq (.ops [⟨some 29, .mov (.tmp 3), none⟩,
                ⟨some 30, .len 1 (.tmp 29), none⟩,
                ⟨some 31, .mov (.tmp 5), none⟩,
                ⟨some 32, .len 1 (.tmp 31), none⟩,
                ⟨some 33, .bin .sub .no (.tmp 30) (.tmp 32), none⟩,
                ⟨some 34, .bin .add .no (.tmp 33) (.lit (.int .i64 1)), none⟩,
                ⟨some 35, .mkslice 1 8 [.int .i64 0] (.tmp 34) (.tmp 34), none⟩,
                ⟨some 6, .mov (.tmp 35), none⟩])
             (.seq (.seq (.ops [⟨some 36, .mov (.tmp 6), none⟩,
                  ⟨some 37, .len 1 (.tmp 36), none⟩,
                  ⟨some 38, .bin .sub .no (.tmp 37) (.lit (.int .i64 1)), none⟩,
                  ⟨some 7, .mov (.tmp 38), none⟩])
               (.block 2 (.loop (.seq (.seq (.ops [⟨some 39, .mov (.tmp 7), none⟩,
                      ⟨some 40, .bin .geq .no (.tmp 39) (.lit (.int .i64 0)), none⟩])
                   (.cond (.tmp 40) .skip (.exit 2)))
                  (.seq (.block 3 (.seq (.ops [⟨some 43, .mov (.tmp 6), none⟩,
                        ⟨some 44, .mov (.tmp 7), none⟩,
                        ⟨some 45, .mov (.tmp 3), none⟩,
                        ⟨some 46, .mov (.tmp 7), none⟩,
                        ⟨some 47, .mov (.tmp 5), none⟩,
                        ⟨some 48, .len 1 (.tmp 47), none⟩,
                        ⟨some 49, .bin .add .no (.tmp 46) (.tmp 48), none⟩,
                        ⟨some 50, .bin .sub .no (.tmp 49) (.lit (.int .i64 1)), none⟩,
                        ⟨some 51, .iaddr none 1 (.tmp 45) (.tmp 50), none⟩,
                        ⟨some 52, .load none (.tmp 51), none⟩,
                        ⟨some 53, .iaddr none 1 (.tmp 43) (.tmp 44), none⟩,
                        ⟨none, .store 1 (.tmp 53) (.tmp 52), none⟩])
                     (.seq (.ops [⟨some 54, .mov (.tmp 5), none⟩,
                         ⟨some 55, .len 1 (.tmp 54), none⟩,
                         ⟨some 56, .mov (.lit (.int .i64 0)), none⟩])
                      (.block 4 (.loop (.seq (.ops [⟨some 57, .bin .lss .no (.tmp 56) (.tmp 55), none⟩])
                         (.seq (.cond (.tmp 57) .skip (.exit 4))
                          (.seq (.block 5 (.seq (.ops [⟨some 58, .mov (.tmp 56), none⟩,
                                ⟨some 59, .iaddr none 1 (.tmp 54) (.tmp 56), none⟩,
                                ⟨some 60, .load none (.tmp 59), none⟩,
                                ⟨some 8, .mov (.tmp 58), none⟩,
                                ⟨some 9, .mov (.tmp 60), none⟩])
                             (.draw [(⟨some 61, .mov (.tmp 3), none⟩, 0),
                                (⟨some 62, .mov (.tmp 7), none⟩, 0),
                                (⟨some 63, .mov (.tmp 8), none⟩, 0),
                                (⟨some 64, .bin .add .no (.tmp 62) (.tmp 63), none⟩, 0),
                                (⟨some 65, .iaddr none 1 (.tmp 61) (.tmp 64), none⟩, 0),
                                (⟨some 66, .load none (.tmp 65), none⟩, 0),
                                (⟨some 67, .mov (.tmp 6), none⟩, 0),
                                (⟨some 68, .mov (.tmp 7), none⟩, 0),
                                (⟨some 69, .iaddr none 1 (.tmp 67) (.tmp 68), none⟩, 0),
                                (⟨some 70, .load none (.tmp 69), none⟩, 0),
                                (⟨some 71, .mov (.tmp 9), none⟩, 0),
                                (⟨some 72, .bin .mul .no (.tmp 70) (.tmp 71), none⟩, 0),
                                (⟨some 73, .bin .sub .no (.tmp 66) (.tmp 72), none⟩, 0),
                                (⟨some 74, .iaddr none 1 (.tmp 61) (.tmp 64), none⟩, 0),
                                (⟨none, .store 1 (.tmp 74) (.tmp 73), none⟩, 0)])))
                           (.ops [⟨some 75, .bin .add .no (.tmp 56) (.lit (.int .i64 1)), none⟩,
                              ⟨some 56, .mov (.tmp 75), none⟩])))))))))
                   (.ops [⟨some 41, .mov (.tmp 7), none⟩,
                      ⟨some 42, .bin .sub .no (.tmp 41) (.lit (.int .i64 1)), none⟩,
                      ⟨some 7, .mov (.tmp 42), none⟩]))))))
              (.ops [⟨some 76, .mov (.tmp 6), none⟩,
                 ⟨some 3, .mov (.tmp 76), none⟩]))))))
         (.ops [⟨some 21, .mov (.tmp 4), none⟩,
            ⟨some 22, .bin .add .no (.tmp 21) (.lit (.int .i64 1)), none⟩,
            ⟨some 4, .mov (.tmp 22), none⟩]))))))
    (.seq (.ops [⟨some 77, .mov (.tmp 3), none⟩,
        ⟨some 2, .mov (.tmp 77), none⟩])
     .ret))))⟩
theorem ok31 : FnOK Go.Proofs.Try.prog 31 af31 := ⟨Go.Proofs.Try.f31, Go.Proofs.Try.func31, by kernel_rfl, by kernel_rfl⟩
def af32 : AFn := ⟨24, [.tmp 2], .seq (.ops [⟨some 2, .mov (.lit .nils), none⟩])
 (.seq (.ops [⟨some 6, .mov (.tmp 0), none⟩,
     ⟨some 7, .len 1 (.tmp 6), none⟩,
     ⟨some 8, .mkslice 3 40 [.bool false, .str [], .str []] (.tmp 7) (.tmp 7), none⟩,
     ⟨some 3, .mov (.tmp 8), none⟩])
  (.seq (.seq (.ops [⟨some 9, .mov (.tmp 0), none⟩,
       ⟨some 10, .len 1 (.tmp 9), none⟩,
       ⟨some 11, .mov (.lit (.int .i64 0)), none⟩])
    (.block 0 (.loop (.seq (.ops [⟨some 12, .bin .lss .no (.tmp 11) (.tmp 10), none⟩])
       (.seq (.cond (.tmp 12) .skip (.exit 0))
        (.seq (.block 1 (.seq (.ops [⟨some 13, .mov (.tmp 11), none⟩,
              ⟨some 14, .iaddr none 1 (.tmp 9) (.tmp 11), none⟩,
              ⟨some 15, .load none (.tmp 14), none⟩,
              ⟨some 4, .mov (.tmp 13), none⟩,
              ⟨some 5, .mov (.tmp 15), none⟩])
           (.ops [⟨some 16, .mov (.tmp 3), none⟩,
              ⟨some 17, .mov (.tmp 4), none⟩,
              ⟨some 18, .mov (.tmp 5), none⟩,
              ⟨some 19, .call (.lit (.fn (.func 49) [] [])) [.tmp 18], none⟩,
              ⟨some 20, .iaddr none 3 (.tmp 16) (.tmp 17), none⟩,
              ⟨none, .store 3 (.tmp 20) (.tmp 19), none⟩])))
         (.ops [⟨some 21, .bin .add .no (.tmp 11) (.lit (.int .i64 1)), none⟩,
            ⟨some 11, .mov (.tmp 21), none⟩])))))))
   (.seq (.ops [⟨some 22, .mov (.tmp 3), none⟩,
       ⟨some 23, .call (.lit (.fn (.func 50) [] [])) [.tmp 22], none⟩,
       ⟨some 2, .mov (.tmp 23), none⟩])
    .ret)))⟩
theorem ok32 : FnOK Go.Proofs.Try.prog 32 af32 := ⟨Go.Proofs.Try.f32, Go.Proofs.Try.func32, by kernel_rfl, by kernel_rfl⟩
def af33 : AFn := ⟨38, [.tmp 2], .seq (.ops [⟨some 2, .mov (.lit .nils), none⟩])
 (.seq (.ops [⟨some 6, .bslice 1 1 [.int .i64 0] [(0, .lit (.int .i64 1))], none⟩,
     ⟨some 7, .call (.lit (.fn (.func 29) [] [])) [.tmp 6], none⟩,
     ⟨some 8, .bslice 1 1 [.int .i64 0] [(0, .lit (.int .i64 1))], none⟩,
     ⟨some 9, .call (.lit (.fn (.func 29) [] [])) [.tmp 8], none⟩,
     ⟨some 3, .mov (.tmp 7), none⟩,
     ⟨some 4, .mov (.tmp 9), none⟩])
  (.seq (.seq (.ops [⟨some 5, .mov (.lit (.int .i64 1)), none⟩])
    (.block 0 (.loop (.seq (.seq (.ops [⟨some 10, .mov (.tmp 5), none⟩,
           ⟨some 11, .mov (.tmp 0), none⟩,
           ⟨some 12, .bin .leq .no (.tmp 10) (.tmp 11), none⟩])
        (.cond (.tmp 12) .skip (.exit 0)))
       (.seq (.block 1 (.seq (.seq (.ops [⟨some 15, .mov (.tmp 0), none⟩,
              ⟨some 16, .mov (.tmp 5), none⟩,
              ⟨some 17, .bin .rem .no (.tmp 15) (.tmp 16), none⟩,
              ⟨some 18, .bin .neq .no (.tmp 17) (.lit (.int .i64 0)), none⟩])
           (.cond (.tmp 18) (.exit 1) .skip))
          (.seq (.ops [⟨some 19, .mov (.tmp 0), none⟩,
              ⟨some 20, .mov (.tmp 5), none⟩,
              ⟨some 21, .bin .quo .no (.tmp 19) (.tmp 20), none⟩,
              ⟨some 22, .call (.lit (.fn (.func 51) [] [])) [.tmp 21], none⟩])
           (.block 2 (.seq (.ops [⟨some 24, .bin .eql .no (.tmp 22) (.lit (.int .i64 1)), none⟩,
                ⟨some 23, .mov (.tmp 24), none⟩])
             (.cond (.tmp 23) (.ops [⟨some 25, .mov (.tmp 3), none⟩,
                 ⟨some 26, .mov (.tmp 5), none⟩,
                 ⟨some 27, .call (.lit (.fn (.func 52) [] [])) [.tmp 26], none⟩,
                 ⟨some 28, .call (.lit (.fn (.func 38) [] [])) [.tmp 25, .tmp 27], none⟩,
                 ⟨some 3, .mov (.tmp 28), none⟩]) (.seq (.ops [⟨some 30, .bin .eql .no (.tmp 22) (.lit (.int .i64 (-1))), none⟩,
                  ⟨some 29, .mov (.tmp 30), none⟩])
               (.cond (.tmp 29) (.ops [⟨some 31, .mov (.tmp 4), none⟩,
                   ⟨some 32, .mov (.tmp 5), none⟩,
                   ⟨some 33, .call (.lit (.fn (.func 52) [] [])) [.tmp 32], none⟩,
                   ⟨some 34, .call (.lit (.fn (.func 38) [] [])) [.tmp 31, .tmp 33], none⟩,
                   ⟨some 4, .mov (.tmp 34), none⟩]) .skip))))))))
        (.ops [⟨some 13, .mov (.tmp 5), none⟩,
           ⟨some 14, .bin .add .no (.tmp 13) (.lit (.int .i64 1)), none⟩,
           ⟨some 5, .mov (.tmp 14), none⟩]))))))
   (.seq (.ops [⟨some 35, .mov (.tmp 3), none⟩,
       ⟨some 36, .mov (.tmp 4), none⟩,
       ⟨some 37, .call (.lit (.fn (.func 53) [] [])) [.tmp 35, .tmp 36], none⟩,
       ⟨some 2, .mov (.tmp 37), none⟩])
    .ret)))⟩
theorem ok33 : FnOK Go.Proofs.Try.prog 33 af33 := ⟨Go.Proofs.Try.f33, Go.Proofs.Try.func33, by kernel_rfl, by kernel_rfl⟩
def af34 : AFn := ⟨24, [.tmp 2], .seq (.ops [⟨some 2, .mov (.lit .nils), none⟩])
 (.seq (.ops [⟨some 4, .mov (.tmp 0), none⟩,
     ⟨some 5, .len 1 (.tmp 4), none⟩,
     ⟨some 3, .mov (.tmp 5), none⟩])
  (.seq (.block 0 (.loop (.seq (.seq (.ops [⟨some 6, .mov (.tmp 3), none⟩,
          ⟨some 7, .bin .gtr .no (.tmp 6) (.lit (.int .i64 0)), none⟩,
          ⟨some 8, .mov (.tmp 7), none⟩,
          ⟨some 9, .mov (.tmp 0), some (8, true)⟩,
          ⟨some 10, .mov (.tmp 3), some (8, true)⟩,
          ⟨some 11, .bin .sub .no (.tmp 10) (.lit (.int .i64 1)), some (8, true)⟩,
          ⟨some 12, .iaddr none 3 (.tmp 9) (.tmp 11), some (8, true)⟩,
          ⟨some 13, .load (some 3) (.tmp 12), some (8, true)⟩,
          ⟨some 14, .call (.lit (.fn (.func 54) [] [])) [.tmp 13], some (8, true)⟩,
          ⟨some 15, .bin .eql .no (.tmp 14) (.lit (.int .i64 0)), some (8, true)⟩,
          ⟨some 16, .pick (.tmp 8) (.tmp 15) (.lit (.bool false)), none⟩])
       (.cond (.tmp 16) .skip (.exit 0)))
      (.block 1 (.ops [⟨some 17, .mov (.tmp 3), none⟩,
          ⟨some 18, .bin .sub .no (.tmp 17) (.lit (.int .i64 1)), none⟩,
          ⟨some 3, .mov (.tmp 18), none⟩])))))
   (.seq (.ops [⟨some 19, .bslice 0 3 [] [], none⟩,
       ⟨some 20, .mov (.tmp 0), none⟩,
       ⟨some 21, .mov (.tmp 3), none⟩,
       ⟨some 22, .slice 3 (.tmp 20) none (some (.tmp 21)) none, none⟩,
       ⟨some 23, .append 3 40 [.bool false, .str [], .str []] (.tmp 19) (.tmp 22), none⟩,
       ⟨some 2, .mov (.tmp 23), none⟩])
    .ret)))⟩
theorem ok34 : FnOK Go.Proofs.Try.prog 34 af34 := ⟨Go.Proofs.Try.f34, Go.Proofs.Try.func34, by kernel_rfl, by kernel_rfl⟩
def af35 : AFn := ⟨28, [.tmp 4], .seq (.ops [⟨some 4, .mov (.lit .nils), none⟩])
 (.seq (.ops [⟨some 5, .mov (.lit .nils), none⟩])
  (.seq (.seq (.ops [⟨some 6, .mov (.lit (.int .i64 0)), none⟩])
    (.block 0 (.loop (.seq (.seq (.ops [⟨some 7, .mov (.tmp 6), none⟩,
           ⟨some 8, .mov (.tmp 0), none⟩,
           ⟨some 9, .len 1 (.tmp 8), none⟩,
           ⟨some 10, .mov (.tmp 1), none⟩,
           ⟨some 11, .len 1 (.tmp 10), none⟩,
           ⟨some 12, .mx [.tmp 9, .tmp 11], none⟩,
           ⟨some 13, .bin .lss .no (.tmp 7) (.tmp 12), none⟩])
        (.cond (.tmp 13) .skip (.exit 0)))
       (.seq (.block 1 (.ops [⟨some 16, .mov (.tmp 5), none⟩,
            ⟨some 17, .mov (.tmp 0), none⟩,
            ⟨some 18, .mov (.tmp 6), none⟩,
            ⟨some 19, .call (.lit (.fn (.func 56) [] [])) [.tmp 17, .tmp 18], none⟩,
            ⟨some 20, .mov (.tmp 1), none⟩,
            ⟨some 21, .mov (.tmp 6), none⟩,
            ⟨some 22, .call (.lit (.fn (.func 56) [] [])) [.tmp 20, .tmp 21], none⟩,
            ⟨some 23, .call (.lit (.fn (.func 55) [] [])) [.tmp 19, .tmp 22], none⟩,
            ⟨some 24, .bslice 1 3 [.bool false, .str [], .str []] [(0, .tmp 23)], none⟩,
            ⟨some 25, .append 3 40 [.bool false, .str [], .str []] (.tmp 16) (.tmp 24), none⟩,
            ⟨some 5, .mov (.tmp 25), none⟩]))
        (.ops [⟨some 14, .mov (.tmp 6), none⟩,
           ⟨some 15, .bin .add .no (.tmp 14) (.lit (.int .i64 1)), none⟩,
           ⟨some 6, .mov (.tmp 15), none⟩]))))))
   (.seq (.ops [⟨some 26, .mov (.tmp 5), none⟩,
       ⟨some 27, .call (.lit (.fn (.func 34) [] [])) [.tmp 26], none⟩,
       ⟨some 4, .mov (.tmp 27), none⟩])
    .ret)))⟩
theorem ok35 : FnOK Go.Proofs.Try.prog 35 af35 := ⟨Go.Proofs.Try.f35, Go.Proofs.Try.func35, by kernel_rfl, by kernel_rfl⟩
def af36 : AFn := ⟨23, [.tmp 4], .seq (.ops [⟨some 3, .box (.tmp 1), none⟩,
    ⟨some 4, .mov (.lit .nils), none⟩])
 (.seq (.ops [⟨some 5, .mov (.lit .nils), none⟩])
  (.seq (.seq (.ops [⟨some 8, .mov (.tmp 0), none⟩,
       ⟨some 9, .len 1 (.tmp 8), none⟩,
       ⟨some 10, .mov (.lit (.int .i64 0)), none⟩])
    (.block 0 (.loop (.seq (.ops [⟨some 11, .bin .lss .no (.tmp 10) (.tmp 9), none⟩])
       (.seq (.cond (.tmp 11) .skip (.exit 0))
        (.seq (.block 1 (.seq (.ops [⟨some 12, .iaddr none 3 (.tmp 8) (.tmp 10), none⟩,
              ⟨some 13, .load (some 3) (.tmp 12), none⟩,
              ⟨some 7, .alloc [.bool false, .str [], .str []], none⟩,
              ⟨none, .store 3 (.tmp 7) (.tmp 13), none⟩])
           (.ops [⟨some 14, .mov (.tmp 5), none⟩,
              ⟨some 15, .load (some 3) (.tmp 7), none⟩,
              ⟨some 16, .load (some 3) (.tmp 3), none⟩,
              ⟨some 17, .call (.lit (.fn (.func 57) [] [])) [.tmp 15, .tmp 16], none⟩,
              ⟨some 18, .bslice 1 3 [.bool false, .str [], .str []] [(0, .tmp 17)], none⟩,
              ⟨some 19, .append 3 40 [.bool false, .str [], .str []] (.tmp 14) (.tmp 18), none⟩,
              ⟨some 5, .mov (.tmp 19), none⟩])))
         (.ops [⟨some 20, .bin .add .no (.tmp 10) (.lit (.int .i64 1)), none⟩,
            ⟨some 10, .mov (.tmp 20), none⟩])))))))
   (.seq (.ops [⟨some 21, .mov (.tmp 5), none⟩,
       ⟨some 22, .call (.lit (.fn (.func 34) [] [])) [.tmp 21], none⟩,
       ⟨some 4, .mov (.tmp 22), none⟩])
    .ret)))⟩
theorem ok36 : FnOK Go.Proofs.Try.prog 36 af36 := ⟨Go.Proofs.Try.f36, Go.Proofs.Try.func36, by kernel_rfl, by kernel_rfl⟩
def af37 : AFn := ⟨10, [.tmp 4], .seq (.ops [⟨some 4, .mov (.lit .nils), none⟩])
 (.seq (.ops [⟨some 5, .mov (.tmp 0), none⟩,
     ⟨some 6, .mov (.tmp 1), none⟩,
     ⟨some 7, .call (.lit (.fn (.func 48) [] [])) [.lit (.int .i64 (-1))], none⟩,
     ⟨some 8, .call (.lit (.fn (.func 36) [] [])) [.tmp 6, .tmp 7], none⟩,
     ⟨some 9, .call (.lit (.fn (.func 35) [] [])) [.tmp 5, .tmp 8], none⟩,
     ⟨some 4, .mov (.tmp 9), none⟩])
  .ret)⟩
theorem ok37 : FnOK Go.Proofs.Try.prog 37 af37 := ⟨Go.Proofs.Try.f37, Go.Proofs.Try.func37, by kernel_rfl, by kernel_rfl⟩
def af38 : AFn := ⟨57, [.tmp 4], .seq (.ops [⟨some 4, .mov (.lit .nils), none⟩])
 (.seq (.ops [⟨some 5, .mov (.lit .nils), none⟩])
  (.seq (.seq (.ops [⟨some 6, .mov (.lit (.int .i64 0)), none⟩])
    (.block 0 (.loop (.seq (.seq (.ops [⟨some 9, .mov (.tmp 6), none⟩,
           ⟨some 10, .mov (.tmp 0), none⟩,
           ⟨some 11, .len 1 (.tmp 10), none⟩,
           ⟨some 12, .mov (.tmp 1), none⟩,
           ⟨some 13, .len 1 (.tmp 12), none⟩,
           ⟨some 14, .bin .add .no (.tmp 11) (.tmp 13), none⟩,
           ⟨some 15, .bin .sub .no (.tmp 14) (.lit (.int .i64 1)), none⟩,
           ⟨some 16, .bin .lss .no (.tmp 9) (.tmp 15), none⟩])
        (.cond (.tmp 16) .skip (.exit 0)))
       (.seq (.block 1 (.seq (.ops [⟨some 19, .call (.lit (.fn (.func 48) [] [])) [.lit (.int .i64 0)], none⟩,
             ⟨some 7, .alloc [.bool false, .str [], .str []], none⟩,
             ⟨none, .store 3 (.tmp 7) (.tmp 19), none⟩])
          (.seq (.seq (.ops [⟨some 20, .mov (.tmp 0), none⟩,
               ⟨some 21, .len 1 (.tmp 20), none⟩,
               ⟨some 22, .mov (.lit (.int .i64 0)), none⟩])
            (.block 2 (.loop (.seq (.ops [⟨some 23, .bin .lss .no (.tmp 22) (.tmp 21), none⟩])
               (.seq (.cond (.tmp 23) .skip (.exit 2))
                (.seq (.block 3 (.seq (.ops [⟨some 24, .mov (.tmp 22), none⟩,
                      ⟨some 8, .mov (.tmp 24), none⟩])
                   (.seq (.ops [⟨some 25, .mov (.tmp 6), none⟩,
                       ⟨some 26, .mov (.tmp 8), none⟩,
                       ⟨some 27, .bin .sub .no (.tmp 25) (.tmp 26), none⟩,
                       ⟨some 28, .bin .geq .no (.tmp 27) (.lit (.int .i64 0)), none⟩,
                       ⟨some 29, .mov (.tmp 28), none⟩,
                       ⟨some 30, .mov (.tmp 6), some (29, true)⟩,
                       ⟨some 31, .mov (.tmp 8), some (29, true)⟩,
                       ⟨some 32, .bin .sub .no (.tmp 30) (.tmp 31), some (29, true)⟩,
                       ⟨some 33, .mov (.tmp 1), some (29, true)⟩,
                       ⟨some 34, .len 1 (.tmp 33), some (29, true)⟩,
                       ⟨some 35, .bin .lss .no (.tmp 32) (.tmp 34), some (29, true)⟩,
                       ⟨some 36, .pick (.tmp 29) (.tmp 35) (.lit (.bool false)), none⟩])
                    (.cond (.tmp 36) (.draw [(⟨some 37, .load (some 3) (.tmp 7), none⟩, 1),
                        (⟨some 38, .mov (.tmp 0), none⟩, 0),
                        (⟨some 39, .mov (.tmp 8), none⟩, 0),
                        (⟨some 40, .iaddr none 3 (.tmp 38) (.tmp 39), none⟩, 0),
                        (⟨some 41, .load (some 3) (.tmp 40), none⟩, 0),
                        (⟨some 42, .mov (.tmp 1), none⟩, 0),
                        (⟨some 43, .mov (.tmp 6), none⟩, 0),
                        (⟨some 44, .mov (.tmp 8), none⟩, 0),
                        (⟨some 45, .bin .sub .no (.tmp 43) (.tmp 44), none⟩, 0),
                        (⟨some 46, .iaddr none 3 (.tmp 42) (.tmp 45), none⟩, 0),
                        (⟨some 47, .load (some 3) (.tmp 46), none⟩, 0),
                        (⟨some 48, .call (.lit (.fn (.func 57) [] [])) [.tmp 41, .tmp 47], none⟩, 0),
                        (⟨some 49, .call (.lit (.fn (.func 55) [] [])) [.tmp 37, .tmp 48], none⟩, 0),
                        (⟨none, .store 3 (.tmp 7) (.tmp 49), none⟩, 0)]) .skip))))
                 (.ops [⟨some 50, .bin .add .no (.tmp 22) (.lit (.int .i64 1)), none⟩,
                    ⟨some 22, .mov (.tmp 50), none⟩])))))))
           (.ops [⟨some 51, .mov (.tmp 5), none⟩,
              ⟨some 52, .load (some 3) (.tmp 7), none⟩,
              ⟨some 53, .bslice 1 3 [.bool false, .str [], .str []] [(0, .tmp 52)], none⟩,
              ⟨some 54, .append 3 40 [.bool false, .str [], .str []] (.tmp 51) (.tmp 53), none⟩,
              ⟨some 5, .mov (.tmp 54), none⟩]))))
        (.ops [⟨some 17, .mov (.tmp 6), none⟩,
           ⟨some 18, .bin .add .no (.tmp 17) (.lit (.int .i64 1)), none⟩,
           ⟨some 6, .mov (.tmp 18), none⟩]))))))
   (.seq (.ops [⟨some 55, .mov (.tmp 5), none⟩,
       ⟨some 56, .call (.lit (.fn (.func 34) [] [])) [.tmp 55], none⟩,
       ⟨some 4, .mov (.tmp 56), none⟩])
    .ret)))⟩
theorem ok38 : FnOK Go.Proofs.Try.prog 38 af38 := ⟨Go.Proofs.Try.f38, Go.Proofs.Try.func38, by kernel_rfl, by kernel_rfl⟩
def af39 : AFn := ⟨26, [.tmp 2, .tmp 3, .tmp 4], .seq (.ops [⟨some 2, .mov (.lit (.bool false)), none⟩,
    ⟨some 3, .mov (.lit (.bool false)), none⟩,
    ⟨some 4, .mov (.lit (.bool false)), none⟩])
 (.seq (.seq (.ops [⟨some 5, .mov (.tmp 0), none⟩])
   (.block 0 (.seq (.block 3 (.seq (.block 2 (.seq (.block 1 (.seq (.seq (.seq (.seq (.ops [⟨some 7, .bin .eql .no (.tmp 5) (.lit (.int .i64 3)), none⟩,
                 ⟨some 6, .mov (.tmp 7), none⟩])
              (.cond (.tmp 6) .skip (.seq (.ops [⟨some 8, .bin .eql .no (.tmp 5) (.lit (.int .i64 4)), none⟩,
                   ⟨some 6, .mov (.tmp 8), none⟩])
                (.cond (.tmp 6) .skip (.seq (.ops [⟨some 9, .bin .eql .no (.tmp 5) (.lit (.int .i64 5)), none⟩,
                     ⟨some 6, .mov (.tmp 9), none⟩])
                  (.cond (.tmp 6) .skip (.seq (.ops [⟨some 10, .bin .eql .no (.tmp 5) (.lit (.int .i64 6)), none⟩,
                       ⟨some 6, .mov (.tmp 10), none⟩])
                    (.cond (.tmp 6) .skip (.seq (.ops [⟨some 11, .bin .eql .no (.tmp 5) (.lit (.int .i64 8)), none⟩,
                         ⟨some 6, .mov (.tmp 11), none⟩])
                      (.cond (.tmp 6) .skip (.seq (.ops [⟨some 12, .bin .eql .no (.tmp 5) (.lit (.int .i64 10)), none⟩,
                           ⟨some 6, .mov (.tmp 12), none⟩])
                        (.cond (.tmp 6) .skip (.seq (.ops [⟨some 13, .bin .eql .no (.tmp 5) (.lit (.int .i64 12)), none⟩,
                             ⟨some 6, .mov (.tmp 13), none⟩])
                          (.cond (.tmp 6) .skip (.seq (.ops [⟨some 14, .bin .eql .no (.tmp 5) (.lit (.int .i64 15)), none⟩,
                               ⟨some 6, .mov (.tmp 14), none⟩])
                            (.cond (.tmp 6) .skip (.ops [⟨some 15, .bin .eql .no (.tmp 5) (.lit (.int .i64 16)), none⟩,
                                ⟨some 6, .mov (.tmp 15), none⟩])))))))))))))))))
             (.cond (.tmp 6) (.exit 1) .skip))
            (.seq (.seq (.seq (.ops [⟨some 17, .bin .eql .no (.tmp 5) (.lit (.int .i64 17)), none⟩,
                  ⟨some 16, .mov (.tmp 17), none⟩])
               (.cond (.tmp 16) .skip (.ops [⟨some 18, .bin .eql .no (.tmp 5) (.lit (.int .i64 20)), none⟩,
                   ⟨some 16, .mov (.tmp 18), none⟩])))
              (.cond (.tmp 16) (.exit 2) .skip))
             (.seq (.seq (.ops [⟨some 20, .bin .eql .no (.tmp 5) (.lit (.int .i64 7)), none⟩,
                  ⟨some 19, .mov (.tmp 20), none⟩])
               (.cond (.tmp 19) .skip (.seq (.ops [⟨some 21, .bin .eql .no (.tmp 5) (.lit (.int .i64 9)), none⟩,
                    ⟨some 19, .mov (.tmp 21), none⟩])
                 (.cond (.tmp 19) .skip (.ops [⟨some 22, .bin .eql .no (.tmp 5) (.lit (.int .i64 14)), none⟩,
                     ⟨some 19, .mov (.tmp 22), none⟩])))))
              (.cond (.tmp 19) (.exit 3) .skip))))
           (.exit 0)))
         (.ops [⟨some 3, .mov (.lit (.bool true)), none⟩,
            ⟨some 4, .mov (.lit (.bool true)), none⟩])))
       (.seq (.ops [⟨some 2, .mov (.lit (.bool true)), none⟩])
        (.exit 0))))
     (.seq (.ops [⟨some 4, .mov (.lit (.bool true)), none⟩])
      (.exit 0)))))
  (.seq (.ops [⟨some 23, .mov (.tmp 2), none⟩,
      ⟨some 24, .mov (.tmp 3), none⟩,
      ⟨some 25, .mov (.tmp 4), none⟩,
      ⟨some 2, .mov (.tmp 23), none⟩,
      ⟨some 3, .mov (.tmp 24), none⟩,
      ⟨some 4, .mov (.tmp 25), none⟩])
   .ret))⟩
theorem ok39 : FnOK Go.Proofs.Try.prog 39 af39 := ⟨Go.Proofs.Try.f39, Go.Proofs.Try.func39, by kernel_rfl, by kernel_rfl⟩
def af40 : AFn := ⟨59, [.tmp 0], .seq (.ops [⟨some 0, .mov (.lit .nilp), none⟩])
 (.seq (.ops [⟨some 3, .build [.nils, .int .i64 0, .int .i64 0, .int .i64 0, .int .i64 0, .int .i64 0, .int .i64 0, .int .i64 0, .int .i64 0, .int .i64 0] [], none⟩,
     ⟨some 4, .box (.tmp 3), none⟩,
     ⟨some 1, .mov (.tmp 4), none⟩])
  (.seq (.ops [⟨some 5, .mov (.tmp 1), none⟩,
      ⟨some 6, .mov (.tmp 1), none⟩,
      ⟨some 7, .call (.lit (.fn (.func 44) [] [])) [.tmp 6, .lit (.int .i64 0), .lit (.int .i64 1)], none⟩,
      ⟨some 8, .nilck (.tmp 5), none⟩,
      ⟨some 9, .faddr 1 (.tmp 8), none⟩,
      ⟨none, .store 1 (.tmp 9) (.tmp 7), none⟩])
   (.seq (.ops [⟨some 10, .mov (.tmp 1), none⟩,
       ⟨some 11, .nilck (.tmp 10), none⟩,
       ⟨some 12, .faddr 2 (.tmp 11), none⟩,
       ⟨some 13, .iaddr (some 6) 1 (.tmp 12) (.lit (.int .i64 1)), none⟩,
       ⟨none, .store 1 (.tmp 13) (.lit (.int .i64 1)), none⟩])
    (.seq (.seq (.ops [⟨some 2, .mov (.lit (.int .i64 2)), none⟩])
      (.block 0 (.loop (.seq (.seq (.ops [⟨some 14, .mov (.tmp 2), none⟩,
             ⟨some 15, .bin .lss .no (.tmp 14) (.lit (.int .i64 6)), none⟩])
          (.cond (.tmp 15) .skip (.exit 0)))
         (.seq (.block 1 (.draw [(⟨some 18, .mov (.tmp 1), none⟩, 0),
              (⟨some 19, .mov (.tmp 2), none⟩, 0),
              (⟨some 20, .mov (.tmp 1), none⟩, 0),
              (⟨some 21, .mov (.tmp 1), none⟩, 0),
              (⟨some 22, .mov (.tmp 1), none⟩, 0),
              (⟨some 23, .mov (.tmp 2), none⟩, 0),
              (⟨some 24, .bin .sub .no (.tmp 23) (.lit (.int .i64 1)), none⟩, 0),
              (⟨some 25, .nilck (.tmp 22), none⟩, 0),
              (⟨some 26, .faddr 2 (.tmp 25), none⟩, 0),
              (⟨some 27, .iaddr (some 6) 1 (.tmp 26) (.tmp 24), none⟩, 0),
              (⟨some 28, .load none (.tmp 27), none⟩, 0),
              (⟨some 29, .mov (.tmp 1), none⟩, 0),
              (⟨some 30, .mov (.tmp 2), none⟩, 0),
              (⟨some 31, .bin .sub .no (.tmp 30) (.lit (.int .i64 2)), none⟩, 0),
              (⟨some 32, .nilck (.tmp 29), none⟩, 0),
              (⟨some 33, .faddr 2 (.tmp 32), none⟩, 0),
              (⟨some 34, .iaddr (some 6) 1 (.tmp 33) (.tmp 31), none⟩, 0),
              (⟨some 35, .load none (.tmp 34), none⟩, 0),
              (⟨some 37, .mov (.tmp 1), none⟩, 0),
              (⟨some 38, .nilck (.tmp 37), none⟩, 0),
              (⟨some 39, .faddr 1 (.tmp 38), none⟩, 0),
              (⟨some 40, .load none (.tmp 39), none⟩, 1),
              (⟨some 42, .nilck (.tmp 18), none⟩, 0),
              (⟨some 43, .faddr 2 (.tmp 42), none⟩, 0),
              (⟨some 36, .call (.lit (.fn (.func 59) [] [])) [.tmp 21, .tmp 28, .tmp 35], none⟩, 0),
              (⟨some 41, .call (.lit (.fn (.func 58) [] [])) [.tmp 20, .tmp 36, .tmp 40, .lit (.int .i64 1)], none⟩, 0),
              (⟨some 44, .iaddr (some 6) 1 (.tmp 43) (.tmp 19), none⟩, 0),
              (⟨none, .store 1 (.tmp 44) (.tmp 41), none⟩, 0)]))
          (.ops [⟨some 16, .mov (.tmp 2), none⟩,
             ⟨some 17, .bin .add .no (.tmp 16) (.lit (.int .i64 1)), none⟩,
             ⟨some 2, .mov (.tmp 17), none⟩]))))))
     (.seq (.ops [⟨some 45, .mov (.tmp 1), none⟩,
         ⟨some 46, .mov (.tmp 1), none⟩,
         ⟨some 47, .call (.lit (.fn (.func 59) [] [])) [.tmp 46, .lit (.int .i64 0), .lit (.int .i64 1)], none⟩,
         ⟨some 48, .nilck (.tmp 45), none⟩,
         ⟨some 49, .faddr 9 (.tmp 48), none⟩,
         ⟨none, .store 1 (.tmp 49) (.tmp 47), none⟩])
      (.seq (.ops [⟨some 51, .mov (.tmp 1), none⟩,
          ⟨some 52, .mov (.tmp 1), none⟩,
          ⟨some 53, .call (.lit (.fn (.func 42) [] [])) [.tmp 52, .lit (.int .i64 0)], none⟩,
          ⟨some 50, .mov (.tmp 53), none⟩,
          ⟨some 54, .extr 0 (.tmp 50), none⟩,
          ⟨some 55, .extr 1 (.tmp 50), none⟩,
          ⟨some 56, .nilck (.tmp 51), none⟩,
          ⟨some 57, .faddr 8 (.tmp 56), none⟩,
          ⟨none, .store 1 (.tmp 57) (.tmp 55), none⟩])
       (.seq (.ops [⟨some 58, .mov (.tmp 1), none⟩,
           ⟨some 0, .mov (.tmp 58), none⟩])
        .ret)))))))⟩
theorem ok40 : FnOK Go.Proofs.Try.prog 40 af40 := ⟨Go.Proofs.Try.f40, Go.Proofs.Try.func40, by kernel_rfl, by kernel_rfl⟩
def af41 : AFn := ⟨131, [.tmp 4], .seq (.ops [⟨some 4, .mov (.lit (.int .i64 0)), none⟩])
 (.seq (.seq (.ops [⟨some 9, .mov (.tmp 1), none⟩])
   (.block 0 (.seq (.ops [⟨some 11, .bin .eql .no (.tmp 9) (.lit (.int .i64 3)), none⟩,
        ⟨some 10, .mov (.tmp 11), none⟩])
     (.cond (.tmp 10) (.seq (.ops [⟨some 12, .mov (.tmp 0), none⟩,
          ⟨some 13, .mov (.tmp 0), none⟩,
          ⟨some 14, .call (.lit (.fn (.func 61) [] [])) [.tmp 13, .lit (.int .i64 1), .lit (.int .i64 1)], none⟩,
          ⟨some 15, .call (.lit (.fn (.func 60) [] [])) [.tmp 12, .tmp 14], none⟩,
          ⟨some 4, .mov (.tmp 15), none⟩])
       .ret) (.seq (.ops [⟨some 17, .bin .eql .no (.tmp 9) (.lit (.int .i64 4)), none⟩,
          ⟨some 16, .mov (.tmp 17), none⟩])
       (.cond (.tmp 16) (.seq (.draw [(⟨some 18, .mov (.tmp 0), none⟩, 0),
            (⟨some 19, .mov (.tmp 0), none⟩, 0),
            (⟨some 21, .mov (.tmp 0), none⟩, 0),
            (⟨some 22, .nilck (.tmp 21), none⟩, 0),
            (⟨some 23, .faddr 1 (.tmp 22), none⟩, 0),
            (⟨some 24, .load none (.tmp 23), none⟩, 1),
            (⟨some 20, .call (.lit (.fn (.func 59) [] [])) [.tmp 19, .lit (.int .i64 1), .lit (.int .i64 0)], none⟩, 0),
            (⟨some 25, .call (.lit (.fn (.func 58) [] [])) [.tmp 18, .tmp 20, .tmp 24, .lit (.int .i64 0)], none⟩, 0),
            (⟨some 4, .mov (.tmp 25), none⟩, 0)])
         .ret) (.seq (.ops [⟨some 27, .bin .eql .no (.tmp 9) (.lit (.int .i64 6)), none⟩,
            ⟨some 26, .mov (.tmp 27), none⟩])
         (.cond (.tmp 26) (.seq (.ops [⟨some 28, .mov (.tmp 0), none⟩,
              ⟨some 29, .call (.lit (.fn (.func 61) [] [])) [.tmp 28, .lit (.int .i64 1), .lit (.int .i64 1)], none⟩,
              ⟨some 4, .mov (.tmp 29), none⟩])
           .ret) (.seq (.ops [⟨some 31, .bin .eql .no (.tmp 9) (.lit (.int .i64 5)), none⟩,
              ⟨some 30, .mov (.tmp 31), none⟩])
           (.cond (.tmp 30) (.seq (.ops [⟨some 32, .mov (.tmp 0), none⟩,
                ⟨some 33, .mov (.tmp 0), none⟩,
                ⟨some 34, .mov (.tmp 0), none⟩,
                ⟨some 35, .mov (.tmp 0), none⟩,
                ⟨some 36, .call (.lit (.fn (.func 64) [] [])) [.tmp 35, .lit (.int .i64 5)], none⟩,
                ⟨some 37, .call (.lit (.fn (.func 63) [] [])) [.tmp 34, .tmp 36], none⟩,
                ⟨some 38, .call (.lit (.fn (.func 62) [] [])) [.tmp 33, .tmp 37, .lit (.int .i64 1)], none⟩,
                ⟨some 39, .call (.lit (.fn (.func 61) [] [])) [.tmp 32, .tmp 38, .lit (.int .i64 2)], none⟩,
                ⟨some 4, .mov (.tmp 39), none⟩])
             .ret) (.seq (.ops [⟨some 41, .bin .eql .no (.tmp 9) (.lit (.int .i64 10)), none⟩,
                ⟨some 40, .mov (.tmp 41), none⟩])
             (.cond (.tmp 40) (.seq (.ops [⟨some 42, .mov (.tmp 0), none⟩,
                  ⟨some 43, .mov (.tmp 0), none⟩,
                  ⟨some 44, .mov (.tmp 0), none⟩,
                  ⟨some 45, .mov (.tmp 0), none⟩,
                  ⟨some 46, .call (.lit (.fn (.func 64) [] [])) [.tmp 45, .lit (.int .i64 5)], none⟩,
                  ⟨some 47, .call (.lit (.fn (.func 63) [] [])) [.tmp 44, .tmp 46], none⟩,
                  ⟨some 48, .call (.lit (.fn (.func 65) [] [])) [.tmp 43, .tmp 47, .lit (.int .i64 1)], none⟩,
                  ⟨some 49, .call (.lit (.fn (.func 61) [] [])) [.tmp 42, .tmp 48, .lit (.int .i64 2)], none⟩,
                  ⟨some 4, .mov (.tmp 49), none⟩])
               .ret) (.seq (.ops [⟨some 51, .bin .eql .no (.tmp 9) (.lit (.int .i64 8)), none⟩,
                  ⟨some 50, .mov (.tmp 51), none⟩])
               (.cond (.tmp 50) (.seq (.ops [⟨some 52, .mov (.tmp 0), none⟩,
                    ⟨some 53, .mov (.tmp 0), none⟩,
                    ⟨some 54, .mov (.tmp 0), none⟩,
                    ⟨some 55, .call (.lit (.fn (.func 64) [] [])) [.tmp 54, .lit (.int .i64 2)], none⟩,
                    ⟨some 56, .call (.lit (.fn (.func 63) [] [])) [.tmp 53, .tmp 55], none⟩,
                    ⟨some 57, .call (.lit (.fn (.func 61) [] [])) [.tmp 52, .tmp 56, .lit (.int .i64 1)], none⟩,
                    ⟨some 4, .mov (.tmp 57), none⟩])
                 .ret) (.seq (.ops [⟨some 59, .bin .eql .no (.tmp 9) (.lit (.int .i64 12)), none⟩,
                    ⟨some 58, .mov (.tmp 59), none⟩])
                 (.cond (.tmp 58) (.seq (.ops [⟨some 60, .mov (.tmp 0), none⟩,
                      ⟨some 61, .mov (.tmp 0), none⟩,
                      ⟨some 62, .mov (.tmp 0), none⟩,
                      ⟨some 63, .call (.lit (.fn (.func 64) [] [])) [.tmp 62, .lit (.int .i64 3)], none⟩,
                      ⟨some 64, .call (.lit (.fn (.func 63) [] [])) [.tmp 61, .tmp 63], none⟩,
                      ⟨some 65, .call (.lit (.fn (.func 61) [] [])) [.tmp 60, .tmp 64, .lit (.int .i64 1)], none⟩,
                      ⟨some 4, .mov (.tmp 65), none⟩])
                   .ret) (.seq (.ops [⟨some 67, .bin .eql .no (.tmp 9) (.lit (.int .i64 16)), none⟩,
                      ⟨some 66, .mov (.tmp 67), none⟩])
                   (.cond (.tmp 66) (.seq (.ops [⟨some 68, .mov (.tmp 0), none⟩,
                        ⟨some 69, .mov (.tmp 0), none⟩,
                        ⟨some 70, .mov (.tmp 0), none⟩,
                        ⟨some 71, .mov (.tmp 0), none⟩,
                        ⟨some 72, .mov (.tmp 0), none⟩,
                        ⟨some 73, .call (.lit (.fn (.func 64) [] [])) [.tmp 72, .lit (.int .i64 2)], none⟩,
                        ⟨some 74, .call (.lit (.fn (.func 63) [] [])) [.tmp 71, .tmp 73], none⟩,
                        ⟨some 75, .mov (.tmp 0), none⟩,
                        ⟨some 76, .call (.lit (.fn (.func 64) [] [])) [.tmp 75, .lit (.int .i64 2)], none⟩,
                        ⟨some 77, .call (.lit (.fn (.func 65) [] [])) [.tmp 70, .tmp 74, .tmp 76], none⟩,
                        ⟨some 78, .call (.lit (.fn (.func 63) [] [])) [.tmp 69, .tmp 77], none⟩,
                        ⟨some 79, .call (.lit (.fn (.func 61) [] [])) [.tmp 68, .tmp 78, .lit (.int .i64 1)], none⟩,
                        ⟨some 4, .mov (.tmp 79), none⟩])
                     .ret) (.seq (.ops [⟨some 81, .bin .eql .no (.tmp 9) (.lit (.int .i64 20)), none⟩,
                        ⟨some 80, .mov (.tmp 81), none⟩])
                     (.cond (.tmp 80) (.seq (.ops [⟨some 82, .mov (.tmp 0), none⟩,
                          ⟨some 83, .mov (.tmp 0), none⟩,
                          ⟨some 84, .call (.lit (.fn (.func 64) [] [])) [.tmp 83, .lit (.int .i64 5)], none⟩,
                          ⟨some 85, .call (.lit (.fn (.func 63) [] [])) [.tmp 82, .tmp 84], none⟩,
                          ⟨some 5, .mov (.tmp 85), none⟩])
                       (.seq (.ops [⟨some 86, .mov (.tmp 0), none⟩,
                           ⟨some 87, .mov (.tmp 0), none⟩,
                           ⟨some 88, .mov (.tmp 0), none⟩,
                           ⟨some 89, .mov (.tmp 0), none⟩,
                           ⟨some 90, .mov (.tmp 5), none⟩,
                           ⟨some 91, .mov (.tmp 5), none⟩,
                           ⟨some 92, .call (.lit (.fn (.func 65) [] [])) [.tmp 89, .tmp 90, .tmp 91], none⟩,
                           ⟨some 93, .mov (.tmp 0), none⟩,
                           ⟨some 94, .call (.lit (.fn (.func 64) [] [])) [.tmp 93, .lit (.int .i64 10)], none⟩,
                           ⟨some 95, .call (.lit (.fn (.func 65) [] [])) [.tmp 88, .tmp 92, .tmp 94], none⟩,
                           ⟨some 96, .call (.lit (.fn (.func 63) [] [])) [.tmp 87, .tmp 95], none⟩,
                           ⟨some 97, .call (.lit (.fn (.func 61) [] [])) [.tmp 86, .tmp 96, .lit (.int .i64 2)], none⟩,
                           ⟨some 4, .mov (.tmp 97), none⟩])
                        .ret)) (.seq (.ops [⟨some 99, .bin .eql .no (.tmp 9) (.lit (.int .i64 15)), none⟩,
                          ⟨some 98, .mov (.tmp 99), none⟩])
                       (.cond (.tmp 98) (.seq (.ops [⟨some 100, .mov (.tmp 0), none⟩,
                            ⟨some 101, .mov (.tmp 0), none⟩,
                            ⟨some 102, .call (.lit (.fn (.func 64) [] [])) [.tmp 101, .lit (.int .i64 5)], none⟩,
                            ⟨some 103, .call (.lit (.fn (.func 63) [] [])) [.tmp 100, .tmp 102], none⟩,
                            ⟨some 6, .mov (.tmp 103), none⟩])
                         (.seq (.ops [⟨some 104, .mov (.tmp 0), none⟩,
                             ⟨some 105, .mov (.tmp 6), none⟩,
                             ⟨some 106, .mov (.tmp 6), none⟩,
                             ⟨some 107, .call (.lit (.fn (.func 65) [] [])) [.tmp 104, .tmp 105, .tmp 106], none⟩,
                             ⟨some 7, .mov (.tmp 107), none⟩])
                          (.seq (.ops [⟨some 108, .mov (.tmp 0), none⟩,
                              ⟨some 109, .mov (.tmp 0), none⟩,
                              ⟨some 110, .mov (.tmp 0), none⟩,
                              ⟨some 111, .call (.lit (.fn (.func 64) [] [])) [.tmp 110, .lit (.int .i64 30)], none⟩,
                              ⟨some 112, .mov (.tmp 0), none⟩,
                              ⟨some 113, .mov (.tmp 0), none⟩,
                              ⟨some 114, .mov (.tmp 7), none⟩,
                              ⟨some 115, .mov (.tmp 7), none⟩,
                              ⟨some 116, .call (.lit (.fn (.func 65) [] [])) [.tmp 113, .tmp 114, .tmp 115], none⟩,
                              ⟨some 117, .mov (.tmp 7), none⟩,
                              ⟨some 118, .call (.lit (.fn (.func 65) [] [])) [.tmp 112, .tmp 116, .tmp 117], none⟩,
                              ⟨some 119, .call (.lit (.fn (.func 62) [] [])) [.tmp 109, .tmp 111, .tmp 118], none⟩,
                              ⟨some 120, .call (.lit (.fn (.func 63) [] [])) [.tmp 108, .tmp 119], none⟩,
                              ⟨some 8, .mov (.tmp 120), none⟩])
                           (.seq (.ops [⟨some 121, .mov (.tmp 0), none⟩,
                               ⟨some 122, .mov (.tmp 0), none⟩,
                               ⟨some 123, .mov (.tmp 0), none⟩,
                               ⟨some 124, .mov (.tmp 6), none⟩,
                               ⟨some 125, .call (.lit (.fn (.func 65) [] [])) [.tmp 123, .tmp 124, .lit (.int .i64 1)], none⟩,
                               ⟨some 126, .mov (.tmp 8), none⟩,
                               ⟨some 127, .call (.lit (.fn (.func 65) [] [])) [.tmp 122, .tmp 125, .tmp 126], none⟩,
                               ⟨some 128, .call (.lit (.fn (.func 61) [] [])) [.tmp 121, .tmp 127, .lit (.int .i64 3)], none⟩,
                               ⟨some 4, .mov (.tmp 128), none⟩])
                            .ret)))) .skip))))))))))))))))))))))
  (.seq (.ops [⟨some 129, .mov (.tmp 0), none⟩,
      ⟨some 130, .call (.lit (.fn (.func 66) [] [])) [.tmp 129], none⟩,
      ⟨some 4, .mov (.tmp 130), none⟩])
   .ret))⟩
theorem ok41 : FnOK Go.Proofs.Try.prog 41 af41 := ⟨Go.Proofs.Try.f41, Go.Proofs.Try.func41, by kernel_rfl, by kernel_rfl⟩
def af42 : AFn := ⟨57, [.tmp 4, .tmp 5], .seq (.ops [⟨some 4, .mov (.lit (.int .i64 0)), none⟩,
    ⟨some 5, .mov (.lit (.int .i64 0)), none⟩])
 (.seq (.ops [⟨some 11, .mov (.tmp 0), none⟩,
     ⟨some 12, .mov (.tmp 1), none⟩,
     ⟨some 13, .mov (.tmp 0), none⟩,
     ⟨some 14, .nilck (.tmp 13), none⟩,
     ⟨some 15, .faddr 2 (.tmp 14), none⟩,
     ⟨some 16, .iaddr (some 6) 1 (.tmp 15) (.lit (.int .i64 3)), none⟩,
     ⟨some 17, .load none (.tmp 16), none⟩,
     ⟨some 18, .call (.lit (.fn (.func 67) [] [])) [.tmp 11, .tmp 12, .lit (.int .i64 0), .tmp 17], none⟩,
     ⟨some 6, .mov (.tmp 18), none⟩])
  (.seq (.draw [(⟨some 19, .mov (.tmp 0), none⟩, 0),
      (⟨some 20, .mov (.tmp 6), none⟩, 0),
      (⟨some 21, .mov (.tmp 0), none⟩, 0),
      (⟨some 22, .nilck (.tmp 21), none⟩, 0),
      (⟨some 23, .faddr 1 (.tmp 22), none⟩, 0),
      (⟨some 24, .load none (.tmp 23), none⟩, 0),
      (⟨some 26, .mov (.tmp 0), none⟩, 0),
      (⟨some 27, .mov (.tmp 6), none⟩, 0),
      (⟨some 28, .mov (.tmp 0), none⟩, 0),
      (⟨some 29, .nilck (.tmp 28), none⟩, 0),
      (⟨some 30, .faddr 1 (.tmp 29), none⟩, 0),
      (⟨some 31, .load none (.tmp 30), none⟩, 1),
      (⟨some 25, .call (.lit (.fn (.func 58) [] [])) [.tmp 19, .tmp 20, .tmp 24, .lit (.int .i64 0)], none⟩, 0),
      (⟨some 32, .call (.lit (.fn (.func 58) [] [])) [.tmp 26, .tmp 27, .tmp 31, .lit (.int .i64 1)], none⟩, 0),
      (⟨some 7, .mov (.tmp 25), none⟩, 0),
      (⟨some 8, .mov (.tmp 32), none⟩, 0)])
   (.seq (.draw [(⟨some 33, .mov (.tmp 0), none⟩, 0),
       (⟨some 34, .mov (.tmp 7), none⟩, 0),
       (⟨some 35, .mov (.tmp 0), none⟩, 0),
       (⟨some 36, .nilck (.tmp 35), none⟩, 0),
       (⟨some 37, .faddr 2 (.tmp 36), none⟩, 0),
       (⟨some 38, .iaddr (some 6) 1 (.tmp 37) (.lit (.int .i64 5)), none⟩, 0),
       (⟨some 39, .load none (.tmp 38), none⟩, 0),
       (⟨some 41, .mov (.tmp 0), none⟩, 0),
       (⟨some 42, .mov (.tmp 8), none⟩, 0),
       (⟨some 43, .mov (.tmp 0), none⟩, 0),
       (⟨some 44, .nilck (.tmp 43), none⟩, 0),
       (⟨some 45, .faddr 2 (.tmp 44), none⟩, 0),
       (⟨some 46, .iaddr (some 6) 1 (.tmp 45) (.lit (.int .i64 5)), none⟩, 0),
       (⟨some 47, .load none (.tmp 46), none⟩, 1),
       (⟨some 40, .call (.lit (.fn (.func 67) [] [])) [.tmp 33, .tmp 34, .lit (.int .i64 0), .tmp 39], none⟩, 0),
       (⟨some 48, .call (.lit (.fn (.func 67) [] [])) [.tmp 41, .tmp 42, .lit (.int .i64 0), .tmp 47], none⟩, 0),
       (⟨some 9, .mov (.tmp 40), none⟩, 0),
       (⟨some 10, .mov (.tmp 48), none⟩, 0)])
    (.seq (.ops [⟨some 49, .mov (.tmp 0), none⟩,
        ⟨some 50, .mov (.tmp 9), none⟩,
        ⟨some 51, .mov (.tmp 10), none⟩,
        ⟨some 52, .call (.lit (.fn (.func 58) [] [])) [.tmp 49, .tmp 50, .tmp 51, .lit (.int .i64 0)], none⟩,
        ⟨some 53, .mov (.tmp 0), none⟩,
        ⟨some 54, .mov (.tmp 9), none⟩,
        ⟨some 55, .mov (.tmp 10), none⟩,
        ⟨some 56, .call (.lit (.fn (.func 58) [] [])) [.tmp 53, .tmp 54, .tmp 55, .lit (.int .i64 1)], none⟩,
        ⟨some 4, .mov (.tmp 52), none⟩,
        ⟨some 5, .mov (.tmp 56), none⟩])
     .ret))))⟩
theorem ok42 : FnOK Go.Proofs.Try.prog 42 af42 := ⟨Go.Proofs.Try.f42, Go.Proofs.Try.func42, by kernel_rfl, by kernel_rfl⟩
def af43 : AFn := ⟨39, [.tmp 6], .seq (.ops [⟨some 6, .mov (.lit .nils), none⟩])
 (.seq (.ops [⟨some 7, .alloc [.nils], none⟩])
  (.seq (.seq (.ops [⟨some 11, .mov (.tmp 0), none⟩,
       ⟨some 12, .mov (.tmp 1), none⟩,
       ⟨some 13, .mov (.tmp 2), none⟩,
       ⟨some 14, .call (.lit (.fn (.func 68) [] [])) [.tmp 11, .tmp 12, .tmp 13], none⟩])
    (.block 0 (.rangeFunc (.tmp 14) [15] (.ops [⟨some 8, .alloc [.int .i64 0, .int .i64 0, .int .i64 0, .int .i64 0], none⟩,
         ⟨none, .store 4 (.tmp 8) (.tmp 15), none⟩]) (.block 1 (.ops [⟨some 16, .load none (.tmp 7), none⟩,
          ⟨some 17, .load (some 4) (.tmp 8), none⟩,
          ⟨some 18, .bslice 1 4 [.int .i64 0, .int .i64 0, .int .i64 0, .int .i64 0] [(0, .tmp 17)], none⟩,
          ⟨some 19, .append 4 32 [.int .i64 0, .int .i64 0, .int .i64 0, .int .i64 0] (.tmp 16) (.tmp 18), none⟩,
          ⟨none, .store 1 (.tmp 7) (.tmp 19), none⟩])))))
   (.seq (.seq (.ops [⟨some 20, .load none (.tmp 7), none⟩,
        ⟨some 21, .len 1 (.tmp 20), none⟩,
        ⟨some 22, .mov (.lit (.int .i64 0)), none⟩])
     (.block 2 (.loop (.seq (.ops [⟨some 23, .bin .lss .no (.tmp 22) (.tmp 21), none⟩])
        (.seq (.cond (.tmp 23) .skip (.exit 2))
         (.seq (.block 3 (.seq (.ops [⟨some 24, .iaddr none 4 (.tmp 20) (.tmp 22), none⟩,
               ⟨some 25, .load (some 4) (.tmp 24), none⟩,
               ⟨some 10, .alloc [.int .i64 0, .int .i64 0, .int .i64 0, .int .i64 0], none⟩,
               ⟨none, .store 4 (.tmp 10) (.tmp 25), none⟩])
            (.ops [⟨some 26, .mov (.tmp 0), none⟩,
               ⟨some 27, .faddr 1 (.tmp 10), none⟩,
               ⟨some 28, .load none (.tmp 27), none⟩,
               ⟨some 29, .faddr 2 (.tmp 10), none⟩,
               ⟨some 30, .load none (.tmp 29), none⟩,
               ⟨some 31, .faddr 3 (.tmp 10), none⟩,
               ⟨some 32, .load none (.tmp 31), none⟩,
               ⟨some 33, .call (.lit (.fn (.func 58) [] [])) [.tmp 26, .tmp 28, .tmp 30, .tmp 32], none⟩])))
          (.ops [⟨some 34, .bin .add .no (.tmp 22) (.lit (.int .i64 1)), none⟩,
             ⟨some 22, .mov (.tmp 34), none⟩])))))))
    (.seq (.ops [⟨some 35, .mov (.tmp 0), none⟩,
        ⟨some 36, .nilck (.tmp 35), none⟩,
        ⟨some 37, .faddr 0 (.tmp 36), none⟩,
        ⟨some 38, .load none (.tmp 37), none⟩,
        ⟨some 6, .mov (.tmp 38), none⟩])
     .ret))))⟩
theorem ok43 : FnOK Go.Proofs.Try.prog 43 af43 := ⟨Go.Proofs.Try.f43, Go.Proofs.Try.func43, by kernel_rfl, by kernel_rfl⟩
def af44 : AFn := ⟨12, [.tmp 6], .seq (.ops [⟨some 6, .mov (.lit (.int .i64 0)), none⟩])
 (.seq (.ops [⟨some 7, .mov (.tmp 0), none⟩,
     ⟨some 8, .mov (.tmp 1), none⟩,
     ⟨some 9, .mov (.tmp 2), none⟩,
     ⟨some 10, .build [.int .i64 0, .int .i64 0, .int .i64 0, .int .i64 0, .int .i64 0, .int .i64 0] [(0, (1, .lit (.int .i64 0))), (1, (1, .tmp 8)), (2, (1, .tmp 9))], none⟩,
     ⟨some 11, .call (.lit (.fn (.func 69) [] [])) [.tmp 7, .tmp 10], none⟩,
     ⟨some 6, .mov (.tmp 11), none⟩])
  .ret)⟩
theorem ok44 : FnOK Go.Proofs.Try.prog 44 af44 := ⟨Go.Proofs.Try.f44, Go.Proofs.Try.func44, by kernel_rfl, by kernel_rfl⟩
def af45 : AFn := ⟨129, [.tmp 4], .seq (.ops [⟨some 2, .box (.tmp 0), none⟩,
    ⟨some 4, .mov (.lit (.int .i64 0)), none⟩])
 (.seq (.ops [⟨some 5, .mov (.lit (.int .i64 (-2))), none⟩,
     ⟨some 6, .mov (.lit (.int .i64 (-2))), none⟩,
     ⟨some 7, .mov (.lit (.int .i64 0)), none⟩,
     ⟨some 8, .mov (.lit (.int .i64 2)), none⟩])
  (.seq (.seq (.ops [⟨some 19, .mov (.tmp 1), none⟩])
    (.block 0 (.seq (.ops [⟨some 21, .bin .eql .no (.tmp 19) (.lit (.int .i64 9)), none⟩,
         ⟨some 20, .mov (.tmp 21), none⟩])
      (.cond (.tmp 20) (.ops [⟨some 5, .mov (.lit (.int .i64 1)), none⟩,
          ⟨some 6, .mov (.lit (.int .i64 (-3))), none⟩,
          ⟨some 7, .mov (.lit (.int .i64 (-1))), none⟩]) (.seq (.ops [⟨some 23, .bin .eql .no (.tmp 19) (.lit (.int .i64 14)), none⟩,
           ⟨some 22, .mov (.tmp 23), none⟩])
        (.cond (.tmp 22) (.ops [⟨some 8, .mov (.lit (.int .i64 0)), none⟩]) .skip))))))
   (.seq (.draw [(⟨some 24, .load none (.tmp 2), none⟩, 0),
       (⟨some 25, .load none (.tmp 2), none⟩, 0),
       (⟨some 26, .nilck (.tmp 25), none⟩, 0),
       (⟨some 27, .faddr 1 (.tmp 26), none⟩, 0),
       (⟨some 28, .load none (.tmp 27), none⟩, 0),
       (⟨some 29, .call (.lit (.fn (.func 70) [] [])) [.tmp 24, .lit (.int .i64 0), .tmp 28], none⟩, 0),
       (⟨some 9, .mov (.tmp 29), none⟩, 0)])
    (.seq (.ops [⟨some 30, .mkfn (.func 71) [] [.tmp 2], none⟩,
        ⟨some 10, .mov (.tmp 30), none⟩])
     (.seq (.draw [(⟨some 31, .load none (.tmp 2), none⟩, 0),
         (⟨some 32, .load none (.tmp 2), none⟩, 0),
         (⟨some 33, .nilck (.tmp 32), none⟩, 0),
         (⟨some 34, .faddr 9 (.tmp 33), none⟩, 0),
         (⟨some 35, .load none (.tmp 34), none⟩, 0),
         (⟨some 36, .mov (.tmp 9), none⟩, 0),
         (⟨some 37, .call (.lit (.fn (.func 58) [] [])) [.tmp 31, .tmp 35, .tmp 36, .lit (.int .i64 1)], none⟩, 0),
         (⟨some 11, .mov (.tmp 37), none⟩, 0)])
      (.seq (.draw [(⟨some 38, .load none (.tmp 2), none⟩, 1),
          (⟨some 39, .load none (.tmp 2), none⟩, 0),
          (⟨some 40, .load none (.tmp 2), none⟩, 0),
          (⟨some 41, .nilck (.tmp 40), none⟩, 0),
          (⟨some 42, .faddr 9 (.tmp 41), none⟩, 0),
          (⟨some 43, .load none (.tmp 42), none⟩, 0),
          (⟨some 44, .mov (.tmp 9), none⟩, 0),
          (⟨some 46, .mov (.tmp 9), none⟩, 0),
          (⟨some 45, .call (.lit (.fn (.func 58) [] [])) [.tmp 39, .tmp 43, .tmp 44, .lit (.int .i64 0)], none⟩, 0),
          (⟨some 47, .call (.lit (.fn (.func 70) [] [])) [.tmp 38, .tmp 45, .tmp 46], none⟩, 0),
          (⟨some 12, .mov (.tmp 47), none⟩, 0)])
       (.seq (.draw [(⟨some 48, .load none (.tmp 2), none⟩, 2),
           (⟨some 49, .load none (.tmp 2), none⟩, 1),
           (⟨some 50, .load none (.tmp 2), none⟩, 0),
           (⟨some 51, .load none (.tmp 2), none⟩, 0),
           (⟨some 52, .mov (.tmp 6), none⟩, 0),
           (⟨some 53, .un .neg (.tmp 52), none⟩, 0),
           (⟨some 54, .nilck (.tmp 51), none⟩, 0),
           (⟨some 55, .faddr 2 (.tmp 54), none⟩, 0),
           (⟨some 56, .iaddr (some 6) 1 (.tmp 55) (.tmp 53), none⟩, 0),
           (⟨some 57, .load none (.tmp 56), none⟩, 0),
           (⟨some 59, .mov (.tmp 9), none⟩, 0),
           (⟨some 61, .mov (.tmp 9), none⟩, 0),
           (⟨some 58, .call (.lit (.fn (.func 59) [] [])) [.tmp 50, .lit (.int .i64 0), .tmp 57], none⟩, 0),
           (⟨some 60, .call (.lit (.fn (.func 58) [] [])) [.tmp 49, .tmp 58, .tmp 59, .lit (.int .i64 0)], none⟩, 0),
           (⟨some 62, .call (.lit (.fn (.func 70) [] [])) [.tmp 48, .tmp 60, .tmp 61], none⟩, 0),
           (⟨some 13, .mov (.tmp 62), none⟩, 0)])
        (.seq (.draw [(⟨some 63, .load none (.tmp 2), none⟩, 2),
            (⟨some 64, .load none (.tmp 2), none⟩, 1),
            (⟨some 65, .mov (.tmp 10), none⟩, 0),
            (⟨some 66, .mov (.tmp 5), none⟩, 0),
            (⟨some 68, .load none (.tmp 2), none⟩, 1),
            (⟨some 69, .nilck (.tmp 68), none⟩, 0),
            (⟨some 70, .faddr 1 (.tmp 69), none⟩, 0),
            (⟨some 71, .load none (.tmp 70), none⟩, 1),
            (⟨some 73, .mov (.tmp 13), none⟩, 0),
            (⟨some 67, .call (.tmp 65) [.tmp 66], none⟩, 0),
            (⟨some 72, .call (.lit (.fn (.func 70) [] [])) [.tmp 64, .tmp 67, .tmp 71], none⟩, 0),
            (⟨some 74, .call (.lit (.fn (.func 58) [] [])) [.tmp 63, .tmp 72, .tmp 73, .lit (.int .i64 0)], none⟩, 0),
            (⟨some 14, .mov (.tmp 74), none⟩, 0)])
         (.seq (.ops [⟨some 75, .mov (.tmp 9), none⟩,
             ⟨some 15, .mov (.tmp 75), none⟩])
          (.seq (.seq (.ops [⟨some 76, .mov (.tmp 7), none⟩,
               ⟨some 77, .bin .neq .no (.tmp 76) (.lit (.int .i64 0)), none⟩])
            (.cond (.tmp 77) (.draw [(⟨some 78, .load none (.tmp 2), none⟩, 1),
                (⟨some 79, .mov (.tmp 10), none⟩, 0),
                (⟨some 80, .mov (.tmp 7), none⟩, 0),
                (⟨some 82, .load none (.tmp 2), none⟩, 1),
                (⟨some 83, .nilck (.tmp 82), none⟩, 0),
                (⟨some 84, .faddr 1 (.tmp 83), none⟩, 0),
                (⟨some 85, .load none (.tmp 84), none⟩, 1),
                (⟨some 81, .call (.tmp 79) [.tmp 80], none⟩, 0),
                (⟨some 86, .call (.lit (.fn (.func 70) [] [])) [.tmp 78, .tmp 81, .tmp 85], none⟩, 0),
                (⟨some 15, .mov (.tmp 86), none⟩, 0)]) .skip))
           (.seq (.ops [⟨some 87, .load none (.tmp 2), none⟩,
               ⟨some 88, .mov (.tmp 11), none⟩,
               ⟨some 89, .mov (.tmp 12), none⟩,
               ⟨some 90, .mov (.tmp 14), none⟩,
               ⟨some 91, .mov (.tmp 15), none⟩,
               ⟨some 92, .mov (.tmp 8), none⟩,
               ⟨some 93, .build [.int .i64 0, .int .i64 0, .int .i64 0, .int .i64 0, .int .i64 0, .int .i64 0] [(0, (1, .lit (.int .i64 8))), (1, (1, .tmp 88)), (2, (1, .tmp 89)), (3, (1, .tmp 90)), (4, (1, .tmp 91)), (5, (1, .tmp 92))], none⟩,
               ⟨some 94, .call (.lit (.fn (.func 69) [] [])) [.tmp 87, .tmp 93], none⟩,
               ⟨some 16, .mov (.tmp 94), none⟩])
            (.seq (.draw [(⟨some 95, .load none (.tmp 2), none⟩, 1),
                (⟨some 96, .load none (.tmp 2), none⟩, 0),
                (⟨some 97, .mov (.tmp 11), none⟩, 0),
                (⟨some 98, .mov (.tmp 16), none⟩, 0),
                (⟨some 100, .mov (.tmp 12), none⟩, 0),
                (⟨some 99, .call (.lit (.fn (.func 70) [] [])) [.tmp 96, .tmp 97, .tmp 98], none⟩, 0),
                (⟨some 101, .call (.lit (.fn (.func 58) [] [])) [.tmp 95, .tmp 99, .tmp 100, .lit (.int .i64 0)], none⟩, 0),
                (⟨some 17, .mov (.tmp 101), none⟩, 0)])
             (.seq (.draw [(⟨some 102, .load none (.tmp 2), none⟩, 1),
                 (⟨some 103, .load none (.tmp 2), none⟩, 0),
                 (⟨some 104, .mov (.tmp 17), none⟩, 0),
                 (⟨some 105, .load none (.tmp 2), none⟩, 0),
                 (⟨some 106, .nilck (.tmp 105), none⟩, 0),
                 (⟨some 107, .faddr 1 (.tmp 106), none⟩, 0),
                 (⟨some 108, .load none (.tmp 107), none⟩, 0),
                 (⟨some 110, .load none (.tmp 2), none⟩, 1),
                 (⟨some 111, .nilck (.tmp 110), none⟩, 0),
                 (⟨some 112, .faddr 1 (.tmp 111), none⟩, 0),
                 (⟨some 113, .load none (.tmp 112), none⟩, 1),
                 (⟨some 109, .call (.lit (.fn (.func 70) [] [])) [.tmp 103, .tmp 104, .tmp 108], none⟩, 0),
                 (⟨some 114, .call (.lit (.fn (.func 58) [] [])) [.tmp 102, .tmp 109, .tmp 113, .lit (.int .i64 0)], none⟩, 0),
                 (⟨some 18, .mov (.tmp 114), none⟩, 0)])
              (.seq (.seq (.ops [⟨some 115, .mov (.tmp 1), none⟩,
                   ⟨some 116, .bin .eql .no (.tmp 115) (.lit (.int .i64 14)), none⟩])
                (.cond (.tmp 116) (.draw [(⟨some 117, .load none (.tmp 2), none⟩, 1),
                    (⟨some 118, .load none (.tmp 2), none⟩, 0),
                    (⟨some 119, .mov (.tmp 18), none⟩, 0),
                    (⟨some 121, .load none (.tmp 2), none⟩, 1),
                    (⟨some 122, .nilck (.tmp 121), none⟩, 0),
                    (⟨some 123, .faddr 1 (.tmp 122), none⟩, 0),
                    (⟨some 124, .load none (.tmp 123), none⟩, 1),
                    (⟨some 120, .call (.lit (.fn (.func 59) [] [])) [.tmp 118, .lit (.int .i64 0), .tmp 119], none⟩, 0),
                    (⟨some 125, .call (.lit (.fn (.func 58) [] [])) [.tmp 117, .tmp 120, .tmp 124, .lit (.int .i64 1)], none⟩, 0),
                    (⟨some 18, .mov (.tmp 125), none⟩, 0)]) .skip))
               (.seq (.ops [⟨some 126, .load none (.tmp 2), none⟩,
                   ⟨some 127, .mov (.tmp 18), none⟩,
                   ⟨some 128, .call (.lit (.fn (.func 61) [] [])) [.tmp 126, .tmp 127, .lit (.int .i64 2)], none⟩,
                   ⟨some 4, .mov (.tmp 128), none⟩])
                .ret)))))))))))))))⟩
theorem ok45 : FnOK Go.Proofs.Try.prog 45 af45 := ⟨Go.Proofs.Try.f45, Go.Proofs.Try.func45, by kernel_rfl, by kernel_rfl⟩
def af46 : AFn := ⟨17, [.tmp 4], .seq (.ops [⟨some 4, .mov (.lit (.int .i64 0)), none⟩])
 (.seq (.block 0 (.seq (.ops [⟨some 6, .mov (.tmp 0), none⟩,
       ⟨some 7, .call (.lit (.fn (.func 10) [] [])) [.tmp 6], none⟩,
       ⟨some 8, .bin .neq .no (.tmp 7) (.lit (.int .i64 0)), none⟩,
       ⟨some 5, .mov (.tmp 8), none⟩])
    (.cond (.tmp 5) (.seq (.ops [⟨some 4, .mov (.lit (.int .i64 3)), none⟩])
      .ret) (.seq (.ops [⟨some 10, .mov (.tmp 0), none⟩,
         ⟨some 11, .call (.lit (.fn (.func 12) [] [])) [.tmp 10], none⟩,
         ⟨some 12, .un .not (.tmp 11), none⟩,
         ⟨some 9, .mov (.tmp 12), none⟩])
      (.cond (.tmp 9) (.seq (.ops [⟨some 4, .mov (.lit (.int .i64 10)), none⟩])
        .ret) (.seq (.ops [⟨some 14, .mov (.tmp 0), none⟩,
           ⟨some 15, .mov (.tmp 1), none⟩,
           ⟨some 16, .bin .gtr .no (.tmp 14) (.tmp 15), none⟩,
           ⟨some 13, .mov (.tmp 16), none⟩])
        (.cond (.tmp 13) (.seq (.ops [⟨some 4, .mov (.lit (.int .i64 17)), none⟩])
          .ret) .skip)))))))
  (.seq (.ops [⟨some 4, .mov (.lit (.int .i64 0)), none⟩])
   .ret))⟩
theorem ok46 : FnOK Go.Proofs.Try.prog 46 af46 := ⟨Go.Proofs.Try.f46, Go.Proofs.Try.func46, by kernel_rfl, by kernel_rfl⟩
def af47 : AFn := ⟨9, [.tmp 2, .tmp 3], .seq (.ops [⟨some 2, .mov (.lit (.int .i64 0)), none⟩,
    ⟨some 3, .mov (.lit (.int .i64 0)), none⟩])
 (.seq (.seq (.ops [⟨some 4, .mov (.tmp 0), none⟩,
      ⟨some 5, .bslice 1 1 [.int .i64 0] [(0, .tmp 4)], none⟩,
      ⟨some 6, .call (.lit (.fn (.func 72) [] [])) [.tmp 5], none⟩])
   (.cond (.tmp 6) (.seq (.ops [⟨some 2, .mov (.lit (.int .i64 0)), none⟩,
        ⟨some 3, .mov (.lit (.int .i64 3)), none⟩])
     .ret) .skip))
  (.seq (.ops [⟨some 7, .mov (.tmp 0), none⟩,
      ⟨some 8, .call (.lit (.fn (.func 73) [] [])) [.tmp 7], none⟩,
      ⟨some 2, .mov (.tmp 8), none⟩,
      ⟨some 3, .mov (.lit (.int .i64 0)), none⟩])
   .ret))⟩
theorem ok47 : FnOK Go.Proofs.Try.prog 47 af47 := ⟨Go.Proofs.Try.f47, Go.Proofs.Try.func47, by kernel_rfl, by kernel_rfl⟩
def af48 : AFn := ⟨6, [.cell 2 (some 3)], .seq (.ops [⟨some 2, .alloc [.bool false, .str [], .str []], none⟩])
 (.seq (.ops [⟨some 3, .mov (.tmp 0), none⟩,
     ⟨some 4, .call (.lit (.fn (.func 74) [] [])) [.tmp 3], none⟩,
     ⟨some 5, .build [.bool false, .str [], .str []] [(0, (2, .tmp 4)), (2, (1, .lit (.str [1])))], none⟩,
     ⟨none, .store 3 (.tmp 2) (.tmp 5), none⟩])
  .ret)⟩
theorem ok48 : FnOK Go.Proofs.Try.prog 48 af48 := ⟨Go.Proofs.Try.f48, Go.Proofs.Try.func48, by kernel_rfl, by kernel_rfl⟩
def af49 : AFn := ⟨6, [.cell 2 (some 3)], .seq (.ops [⟨some 2, .alloc [.bool false, .str [], .str []], none⟩])
 (.seq (.ops [⟨some 3, .mov (.tmp 0), none⟩,
     ⟨some 4, .call (.lit (.fn (.func 76) [] [])) [.tmp 3], none⟩,
     ⟨some 5, .call (.lit (.fn (.func 75) [] [])) [.tmp 4], none⟩,
     ⟨none, .store 3 (.tmp 2) (.tmp 5), none⟩])
  .ret)⟩
theorem ok49 : FnOK Go.Proofs.Try.prog 49 af49 := ⟨Go.Proofs.Try.f49, Go.Proofs.Try.func49, by kernel_rfl, by kernel_rfl⟩
def af50 : AFn := ⟨22, [.tmp 2], .seq (.ops [⟨some 2, .mov (.lit .nils), none⟩])
 (.seq (.ops [⟨some 4, .mov (.tmp 0), none⟩,
     ⟨some 5, .len 1 (.tmp 4), none⟩,
     ⟨some 3, .mov (.tmp 5), none⟩])
  (.seq (.block 0 (.loop (.seq (.seq (.ops [⟨some 6, .mov (.tmp 3), none⟩,
          ⟨some 7, .bin .gtr .no (.tmp 6) (.lit (.int .i64 0)), none⟩,
          ⟨some 8, .mov (.tmp 7), none⟩,
          ⟨some 9, .mov (.tmp 0), some (8, true)⟩,
          ⟨some 10, .mov (.tmp 3), some (8, true)⟩,
          ⟨some 11, .bin .sub .no (.tmp 10) (.lit (.int .i64 1)), some (8, true)⟩,
          ⟨some 12, .iaddr none 3 (.tmp 9) (.tmp 11), some (8, true)⟩,
          ⟨some 13, .load (some 3) (.tmp 12), some (8, true)⟩,
          ⟨some 14, .call (.lit (.fn (.func 77) [] [])) [.tmp 13], some (8, true)⟩,
          ⟨some 15, .pick (.tmp 8) (.tmp 14) (.lit (.bool false)), none⟩])
       (.cond (.tmp 15) .skip (.exit 0)))
      (.block 1 (.ops [⟨some 16, .mov (.tmp 3), none⟩,
          ⟨some 17, .bin .sub .no (.tmp 16) (.lit (.int .i64 1)), none⟩,
          ⟨some 3, .mov (.tmp 17), none⟩])))))
   (.seq (.ops [⟨some 18, .mov (.tmp 0), none⟩,
       ⟨some 19, .mov (.tmp 3), none⟩,
       ⟨some 20, .mov (.tmp 3), none⟩,
       ⟨some 21, .slice 3 (.tmp 18) none (some (.tmp 19)) (some (.tmp 20)), none⟩,
       ⟨some 2, .mov (.tmp 21), none⟩])
    .ret)))⟩
theorem ok50 : FnOK Go.Proofs.Try.prog 50 af50 := ⟨Go.Proofs.Try.f50, Go.Proofs.Try.func50, by kernel_rfl, by kernel_rfl⟩
def af51 : AFn := ⟨23, [.tmp 2], .seq (.ops [⟨some 2, .mov (.lit (.int .i64 0)), none⟩])
 (.seq (.ops [⟨some 3, .mov (.lit (.int .i64 1)), none⟩])
  (.seq (.ops [⟨some 6, .mov (.tmp 0), none⟩,
      ⟨some 7, .call (.lit (.fn (.func 17) [] [])) [.tmp 6], none⟩,
      ⟨some 4, .mov (.tmp 7), none⟩])
   (.seq (.seq (.ops [⟨some 5, .mov (.lit (.int .i64 0)), none⟩])
     (.block 0 (.loop (.seq (.seq (.ops [⟨some 8, .mov (.tmp 5), none⟩,
            ⟨some 9, .mov (.tmp 4), none⟩,
            ⟨some 10, .len 1 (.tmp 9), none⟩,
            ⟨some 11, .bin .lss .no (.tmp 8) (.tmp 10), none⟩])
         (.cond (.tmp 11) .skip (.exit 0)))
        (.seq (.block 1 (.seq (.seq (.ops [⟨some 14, .mov (.tmp 4), none⟩,
               ⟨some 15, .mov (.tmp 5), none⟩,
               ⟨some 16, .iaddr none 2 (.tmp 14) (.tmp 15), none⟩,
               ⟨some 17, .faddr 1 (.tmp 16), none⟩,
               ⟨some 18, .load none (.tmp 17), none⟩,
               ⟨some 19, .bin .gtr .no (.tmp 18) (.lit (.int .i64 1)), none⟩])
            (.cond (.tmp 19) (.seq (.ops [⟨some 2, .mov (.lit (.int .i64 0)), none⟩])
              .ret) .skip))
           (.ops [⟨some 20, .mov (.tmp 3), none⟩,
              ⟨some 21, .un .neg (.tmp 20), none⟩,
              ⟨some 3, .mov (.tmp 21), none⟩])))
         (.ops [⟨some 12, .mov (.tmp 5), none⟩,
            ⟨some 13, .bin .add .no (.tmp 12) (.lit (.int .i64 1)), none⟩,
            ⟨some 5, .mov (.tmp 13), none⟩]))))))
    (.seq (.ops [⟨some 22, .mov (.tmp 3), none⟩,
        ⟨some 2, .mov (.tmp 22), none⟩])
     .ret))))⟩
theorem ok51 : FnOK Go.Proofs.Try.prog 51 af51 := ⟨Go.Proofs.Try.f51, Go.Proofs.Try.func51, by kernel_rfl, by kernel_rfl⟩
def af52 : AFn := ⟨9, [.tmp 2], .seq (.ops [⟨some 2, .mov (.lit .nils), none⟩])
 (.seq (.ops [⟨some 3, .call (.lit (.fn (.func 48) [] [])) [.lit (.int .i64 1)], none⟩,
     ⟨some 4, .mov (.tmp 0), none⟩,
     ⟨some 5, .call (.lit (.fn (.func 78) [] [])) [.tmp 3, .tmp 4], none⟩,
     ⟨some 6, .bslice 1 1 [.int .i64 0] [(0, .lit (.int .i64 1))], none⟩,
     ⟨some 7, .call (.lit (.fn (.func 29) [] [])) [.tmp 6], none⟩,
     ⟨some 8, .call (.lit (.fn (.func 37) [] [])) [.tmp 5, .tmp 7], none⟩,
     ⟨some 2, .mov (.tmp 8), none⟩])
  .ret)⟩
theorem ok52 : FnOK Go.Proofs.Try.prog 52 af52 := ⟨Go.Proofs.Try.f52, Go.Proofs.Try.func52, by kernel_rfl, by kernel_rfl⟩
def af53 : AFn := ⟨14, [.tmp 4], .seq (.ops [⟨some 4, .mov (.lit .nils), none⟩])
 (.seq (.ops [⟨some 8, .mov (.tmp 0), none⟩,
     ⟨some 9, .mov (.tmp 1), none⟩,
     ⟨some 10, .call (.lit (.fn (.func 79) [] [])) [.tmp 8, .tmp 9], none⟩,
     ⟨some 7, .mov (.tmp 10), none⟩,
     ⟨some 11, .extr 0 (.tmp 7), none⟩,
     ⟨some 12, .extr 1 (.tmp 7), none⟩,
     ⟨some 5, .mov (.tmp 11), none⟩,
     ⟨some 6, .mov (.tmp 12), none⟩])
  (.seq (.ops [⟨some 13, .mov (.tmp 5), none⟩,
      ⟨some 4, .mov (.tmp 13), none⟩])
   .ret))⟩
theorem ok53 : FnOK Go.Proofs.Try.prog 53 af53 := ⟨Go.Proofs.Try.f53, Go.Proofs.Try.func53, by kernel_rfl, by kernel_rfl⟩
def af54 : AFn := ⟨6, [.tmp 2], .seq (.ops [⟨some 1, .box (.tmp 0), none⟩,
    ⟨some 2, .mov (.lit (.int .i64 0)), none⟩])
 (.seq (.ops [⟨some 3, .faddr 0 (.tmp 1), none⟩,
     ⟨some 4, .load (some 2) (.tmp 3), none⟩,
     ⟨some 5, .call (.lit (.fn (.func 80) [] [])) [.tmp 4], none⟩,
     ⟨some 2, .mov (.tmp 5), none⟩])
  .ret)⟩
theorem ok54 : FnOK Go.Proofs.Try.prog 54 af54 := ⟨Go.Proofs.Try.f54, Go.Proofs.Try.func54, by kernel_rfl, by kernel_rfl⟩
def af55 : AFn := ⟨38, [.cell 4 (some 3)], .seq (.ops [⟨some 2, .box (.tmp 0), none⟩,
    ⟨some 3, .box (.tmp 1), none⟩,
    ⟨some 4, .alloc [.bool false, .str [], .str []], none⟩])
 (.seq (.seq (.ops [⟨some 6, .faddr 2 (.tmp 2), none⟩,
      ⟨some 7, .load none (.tmp 6), none⟩,
      ⟨some 8, .bin .eql .no (.tmp 7) (.lit (.str [1])), none⟩,
      ⟨some 9, .mov (.tmp 8), none⟩,
      ⟨some 10, .faddr 2 (.tmp 3), some (9, true)⟩,
      ⟨some 11, .load none (.tmp 10), some (9, true)⟩,
      ⟨some 12, .bin .eql .no (.tmp 11) (.lit (.str [1])), some (9, true)⟩,
      ⟨some 13, .pick (.tmp 9) (.tmp 12) (.lit (.bool false)), none⟩])
   (.cond (.tmp 13) (.seq (.ops [⟨some 14, .faddr 0 (.tmp 2), none⟩,
        ⟨some 15, .load (some 2) (.tmp 14), none⟩,
        ⟨some 16, .faddr 0 (.tmp 3), none⟩,
        ⟨some 17, .load (some 2) (.tmp 16), none⟩,
        ⟨some 18, .call (.lit (.fn (.func 82) [] [])) [.tmp 15, .tmp 17], none⟩,
        ⟨some 19, .call (.lit (.fn (.func 81) [] [])) [.tmp 18], none⟩,
        ⟨none, .store 3 (.tmp 4) (.tmp 19), none⟩])
     .ret) .skip))
  (.seq (.draw [(⟨some 20, .faddr 0 (.tmp 2), none⟩, 0),
      (⟨some 21, .load (some 2) (.tmp 20), none⟩, 1),
      (⟨some 22, .load (some 3) (.tmp 3), none⟩, 0),
      (⟨some 25, .faddr 0 (.tmp 3), none⟩, 0),
      (⟨some 26, .load (some 2) (.tmp 25), none⟩, 3),
      (⟨some 27, .load (some 3) (.tmp 2), none⟩, 2),
      (⟨some 5, .alloc [.bool false, .str []], none⟩, 5),
      (⟨some 23, .call (.lit (.fn (.func 84) [] [])) [.tmp 22], none⟩, 0),
      (⟨some 24, .call (.lit (.fn (.func 83) [] [])) [.tmp 21, .tmp 23], none⟩, 0),
      (⟨some 28, .call (.lit (.fn (.func 84) [] [])) [.tmp 27], none⟩, 0),
      (⟨some 29, .call (.lit (.fn (.func 83) [] [])) [.tmp 26, .tmp 28], none⟩, 0),
      (⟨some 30, .call (.lit (.fn (.func 82) [] [])) [.tmp 24, .tmp 29], none⟩, 0),
      (⟨none, .store 2 (.tmp 5) (.tmp 30), none⟩, 0)])
   (.seq (.draw [(⟨some 31, .load (some 2) (.tmp 5), none⟩, 3),
       (⟨some 32, .load (some 3) (.tmp 2), none⟩, 0),
       (⟨some 34, .load (some 3) (.tmp 3), none⟩, 1),
       (⟨some 33, .call (.lit (.fn (.func 84) [] [])) [.tmp 32], none⟩, 0),
       (⟨some 35, .call (.lit (.fn (.func 84) [] [])) [.tmp 34], none⟩, 0),
       (⟨some 36, .call (.lit (.fn (.func 83) [] [])) [.tmp 33, .tmp 35], none⟩, 0),
       (⟨some 37, .call (.lit (.fn (.func 85) [] [])) [.tmp 31, .tmp 36], none⟩, 0),
       (⟨none, .store 3 (.tmp 4) (.tmp 37), none⟩, 0)])
    .ret)))⟩
theorem ok55 : FnOK Go.Proofs.Try.prog 55 af55 := ⟨Go.Proofs.Try.f55, Go.Proofs.Try.func55, by kernel_rfl, by kernel_rfl⟩
def af56 : AFn := ⟨14, [.cell 4 (some 3)], .seq (.ops [⟨some 4, .alloc [.bool false, .str [], .str []], none⟩])
 (.seq (.seq (.ops [⟨some 5, .mov (.tmp 1), none⟩,
      ⟨some 6, .mov (.tmp 0), none⟩,
      ⟨some 7, .len 1 (.tmp 6), none⟩,
      ⟨some 8, .bin .lss .no (.tmp 5) (.tmp 7), none⟩])
   (.cond (.tmp 8) (.seq (.ops [⟨some 9, .mov (.tmp 0), none⟩,
        ⟨some 10, .mov (.tmp 1), none⟩,
        ⟨some 11, .iaddr none 3 (.tmp 9) (.tmp 10), none⟩,
        ⟨some 12, .load (some 3) (.tmp 11), none⟩,
        ⟨none, .store 3 (.tmp 4) (.tmp 12), none⟩])
     .ret) .skip))
  (.seq (.ops [⟨some 13, .call (.lit (.fn (.func 48) [] [])) [.lit (.int .i64 0)], none⟩,
      ⟨none, .store 3 (.tmp 4) (.tmp 13), none⟩])
   .ret))⟩
theorem ok56 : FnOK Go.Proofs.Try.prog 56 af56 := ⟨Go.Proofs.Try.f56, Go.Proofs.Try.func56, by kernel_rfl, by kernel_rfl⟩
def af57 : AFn := ⟨30, [.cell 4 (some 3)], .seq (.ops [⟨some 2, .box (.tmp 0), none⟩,
    ⟨some 3, .box (.tmp 1), none⟩,
    ⟨some 4, .alloc [.bool false, .str [], .str []], none⟩])
 (.seq (.seq (.ops [⟨some 5, .faddr 2 (.tmp 2), none⟩,
      ⟨some 6, .load none (.tmp 5), none⟩,
      ⟨some 7, .bin .eql .no (.tmp 6) (.lit (.str [1])), none⟩,
      ⟨some 8, .mov (.tmp 7), none⟩,
      ⟨some 9, .faddr 2 (.tmp 3), some (8, true)⟩,
      ⟨some 10, .load none (.tmp 9), some (8, true)⟩,
      ⟨some 11, .bin .eql .no (.tmp 10) (.lit (.str [1])), some (8, true)⟩,
      ⟨some 12, .pick (.tmp 8) (.tmp 11) (.lit (.bool false)), none⟩])
   (.cond (.tmp 12) (.seq (.ops [⟨some 13, .faddr 0 (.tmp 2), none⟩,
        ⟨some 14, .load (some 2) (.tmp 13), none⟩,
        ⟨some 15, .faddr 0 (.tmp 3), none⟩,
        ⟨some 16, .load (some 2) (.tmp 15), none⟩,
        ⟨some 17, .call (.lit (.fn (.func 83) [] [])) [.tmp 14, .tmp 16], none⟩,
        ⟨some 18, .call (.lit (.fn (.func 81) [] [])) [.tmp 17], none⟩,
        ⟨none, .store 3 (.tmp 4) (.tmp 18), none⟩])
     .ret) .skip))
  (.seq (.draw [(⟨some 19, .faddr 0 (.tmp 2), none⟩, 0),
      (⟨some 20, .load (some 2) (.tmp 19), none⟩, 0),
      (⟨some 21, .faddr 0 (.tmp 3), none⟩, 0),
      (⟨some 22, .load (some 2) (.tmp 21), none⟩, 0),
      (⟨some 24, .load (some 3) (.tmp 2), none⟩, 1),
      (⟨some 26, .load (some 3) (.tmp 3), none⟩, 2),
      (⟨some 23, .call (.lit (.fn (.func 83) [] [])) [.tmp 20, .tmp 22], none⟩, 0),
      (⟨some 25, .call (.lit (.fn (.func 84) [] [])) [.tmp 24], none⟩, 0),
      (⟨some 27, .call (.lit (.fn (.func 84) [] [])) [.tmp 26], none⟩, 0),
      (⟨some 28, .call (.lit (.fn (.func 83) [] [])) [.tmp 25, .tmp 27], none⟩, 0),
      (⟨some 29, .call (.lit (.fn (.func 85) [] [])) [.tmp 23, .tmp 28], none⟩, 0),
      (⟨none, .store 3 (.tmp 4) (.tmp 29), none⟩, 0)])
   .ret))⟩
theorem ok57 : FnOK Go.Proofs.Try.prog 57 af57 := ⟨Go.Proofs.Try.f57, Go.Proofs.Try.func57, by kernel_rfl, by kernel_rfl⟩
def af58 : AFn := ⟨15, [.tmp 8], .seq (.ops [⟨some 8, .mov (.lit (.int .i64 0)), none⟩])
 (.seq (.ops [⟨some 9, .mov (.tmp 0), none⟩,
     ⟨some 10, .mov (.tmp 1), none⟩,
     ⟨some 11, .mov (.tmp 2), none⟩,
     ⟨some 12, .mov (.tmp 3), none⟩,
     ⟨some 13, .build [.int .i64 0, .int .i64 0, .int .i64 0, .int .i64 0, .int .i64 0, .int .i64 0] [(0, (1, .lit (.int .i64 3))), (1, (1, .tmp 10)), (2, (1, .tmp 11)), (5, (1, .tmp 12))], none⟩,
     ⟨some 14, .call (.lit (.fn (.func 69) [] [])) [.tmp 9, .tmp 13], none⟩,
     ⟨some 8, .mov (.tmp 14), none⟩])
  .ret)⟩
theorem ok58 : FnOK Go.Proofs.Try.prog 58 af58 := ⟨Go.Proofs.Try.f58, Go.Proofs.Try.func58, by kernel_rfl, by kernel_rfl⟩
def af59 : AFn := ⟨12, [.tmp 6], .seq (.ops [⟨some 6, .mov (.lit (.int .i64 0)), none⟩])
 (.seq (.ops [⟨some 7, .mov (.tmp 0), none⟩,
     ⟨some 8, .mov (.tmp 1), none⟩,
     ⟨some 9, .mov (.tmp 2), none⟩,
     ⟨some 10, .build [.int .i64 0, .int .i64 0, .int .i64 0, .int .i64 0, .int .i64 0, .int .i64 0] [(0, (1, .lit (.int .i64 1))), (1, (1, .tmp 8)), (2, (1, .tmp 9))], none⟩,
     ⟨some 11, .call (.lit (.fn (.func 69) [] [])) [.tmp 7, .tmp 10], none⟩,
     ⟨some 6, .mov (.tmp 11), none⟩])
  .ret)⟩
theorem ok59 : FnOK Go.Proofs.Try.prog 59 af59 := ⟨Go.Proofs.Try.f59, Go.Proofs.Try.func59, by kernel_rfl, by kernel_rfl⟩
def af60 : AFn := ⟨14, [.tmp 4], .seq (.ops [⟨some 4, .mov (.lit (.int .i64 0)), none⟩])
 (.seq (.draw [(⟨some 5, .mov (.tmp 0), none⟩, 0),
     (⟨some 6, .mov (.tmp 0), none⟩, 0),
     (⟨some 7, .mov (.tmp 1), none⟩, 0),
     (⟨some 9, .mov (.tmp 0), none⟩, 0),
     (⟨some 10, .nilck (.tmp 9), none⟩, 0),
     (⟨some 11, .faddr 1 (.tmp 10), none⟩, 0),
     (⟨some 12, .load none (.tmp 11), none⟩, 1),
     (⟨some 8, .call (.lit (.fn (.func 59) [] [])) [.tmp 6, .lit (.int .i64 0), .tmp 7], none⟩, 0),
     (⟨some 13, .call (.lit (.fn (.func 58) [] [])) [.tmp 5, .tmp 8, .tmp 12, .lit (.int .i64 0)], none⟩, 0),
     (⟨some 4, .mov (.tmp 13), none⟩, 0)])
  .ret)⟩
theorem ok60 : FnOK Go.Proofs.Try.prog 60 af60 := ⟨Go.Proofs.Try.f60, Go.Proofs.Try.func60, by kernel_rfl, by kernel_rfl⟩
def af61 : AFn := ⟨33, [.tmp 6], .seq (.ops [⟨some 6, .mov (.lit (.int .i64 0)), none⟩])
 (.seq (.seq (.ops [⟨some 9, .mov (.tmp 2), none⟩,
      ⟨some 10, .mov (.lit (.int .i64 0)), none⟩])
   (.block 0 (.loop (.seq (.ops [⟨some 11, .bin .lss .no (.tmp 10) (.tmp 9), none⟩])
      (.seq (.cond (.tmp 11) .skip (.exit 0))
       (.seq (.block 1 (.seq (.ops [⟨some 13, .mov (.tmp 0), none⟩,
             ⟨some 14, .mov (.tmp 1), none⟩,
             ⟨some 15, .call (.lit (.fn (.func 42) [] [])) [.tmp 13, .tmp 14], none⟩,
             ⟨some 12, .mov (.tmp 15), none⟩,
             ⟨some 16, .extr 0 (.tmp 12), none⟩,
             ⟨some 17, .extr 1 (.tmp 12), none⟩,
             ⟨some 7, .mov (.tmp 16), none⟩,
             ⟨some 8, .mov (.tmp 17), none⟩])
          (.draw [(⟨some 18, .mov (.tmp 0), none⟩, 0),
             (⟨some 19, .mov (.tmp 0), none⟩, 0),
             (⟨some 20, .mov (.tmp 0), none⟩, 0),
             (⟨some 21, .nilck (.tmp 20), none⟩, 0),
             (⟨some 22, .faddr 8 (.tmp 21), none⟩, 0),
             (⟨some 23, .load none (.tmp 22), none⟩, 0),
             (⟨some 24, .mov (.tmp 7), none⟩, 0),
             (⟨some 26, .mov (.tmp 0), none⟩, 0),
             (⟨some 27, .nilck (.tmp 26), none⟩, 0),
             (⟨some 28, .faddr 1 (.tmp 27), none⟩, 0),
             (⟨some 29, .load none (.tmp 28), none⟩, 1),
             (⟨some 25, .call (.lit (.fn (.func 44) [] [])) [.tmp 19, .tmp 23, .tmp 24], none⟩, 0),
             (⟨some 30, .call (.lit (.fn (.func 58) [] [])) [.tmp 18, .tmp 25, .tmp 29, .lit (.int .i64 0)], none⟩, 0),
             (⟨some 1, .mov (.tmp 30), none⟩, 0)])))
        (.ops [⟨some 31, .bin .add .no (.tmp 10) (.lit (.int .i64 1)), none⟩,
           ⟨some 10, .mov (.tmp 31), none⟩])))))))
  (.seq (.ops [⟨some 32, .mov (.tmp 1), none⟩,
      ⟨some 6, .mov (.tmp 32), none⟩])
   .ret))⟩
theorem ok61 : FnOK Go.Proofs.Try.prog 61 af61 := ⟨Go.Proofs.Try.f61, Go.Proofs.Try.func61, by kernel_rfl, by kernel_rfl⟩
def af62 : AFn := ⟨17, [.tmp 6], .seq (.ops [⟨some 6, .mov (.lit (.int .i64 0)), none⟩])
 (.seq (.draw [(⟨some 7, .mov (.tmp 0), none⟩, 0),
     (⟨some 8, .mov (.tmp 0), none⟩, 0),
     (⟨some 9, .mov (.tmp 1), none⟩, 0),
     (⟨some 10, .mov (.tmp 2), none⟩, 0),
     (⟨some 12, .mov (.tmp 0), none⟩, 0),
     (⟨some 13, .nilck (.tmp 12), none⟩, 0),
     (⟨some 14, .faddr 1 (.tmp 13), none⟩, 0),
     (⟨some 15, .load none (.tmp 14), none⟩, 1),
     (⟨some 11, .call (.lit (.fn (.func 67) [] [])) [.tmp 8, .tmp 9, .lit (.int .i64 0), .tmp 10], none⟩, 0),
     (⟨some 16, .call (.lit (.fn (.func 58) [] [])) [.tmp 7, .tmp 11, .tmp 15, .lit (.int .i64 0)], none⟩, 0),
     (⟨some 6, .mov (.tmp 16), none⟩, 0)])
  .ret)⟩
theorem ok62 : FnOK Go.Proofs.Try.prog 62 af62 := ⟨Go.Proofs.Try.f62, Go.Proofs.Try.func62, by kernel_rfl, by kernel_rfl⟩
def af63 : AFn := ⟨40, [.tmp 4], .seq (.ops [⟨some 4, .mov (.lit (.int .i64 0)), none⟩])
 (.seq (.ops [⟨some 10, .mov (.tmp 0), none⟩,
     ⟨some 11, .call (.lit (.fn (.func 60) [] [])) [.tmp 10, .lit (.int .i64 1)], none⟩,
     ⟨some 5, .mov (.tmp 11), none⟩])
  (.seq (.ops [⟨some 12, .mov (.tmp 0), none⟩,
      ⟨some 13, .mov (.tmp 0), none⟩,
      ⟨some 14, .mov (.tmp 5), none⟩,
      ⟨some 15, .mov (.tmp 1), none⟩,
      ⟨some 16, .call (.lit (.fn (.func 86) [] [])) [.tmp 13, .tmp 14, .tmp 15], none⟩,
      ⟨some 17, .mov (.tmp 1), none⟩,
      ⟨some 18, .call (.lit (.fn (.func 59) [] [])) [.tmp 12, .tmp 16, .tmp 17], none⟩,
      ⟨some 6, .mov (.tmp 18), none⟩])
   (.seq (.ops [⟨some 20, .mov (.tmp 0), none⟩,
       ⟨some 21, .call (.lit (.fn (.func 42) [] [])) [.tmp 20, .lit (.int .i64 0)], none⟩,
       ⟨some 19, .mov (.tmp 21), none⟩,
       ⟨some 22, .extr 0 (.tmp 19), none⟩,
       ⟨some 23, .extr 1 (.tmp 19), none⟩,
       ⟨some 7, .mov (.tmp 22), none⟩,
       ⟨some 8, .mov (.tmp 23), none⟩])
    (.seq (.ops [⟨some 24, .mov (.tmp 0), none⟩,
        ⟨some 25, .mov (.tmp 6), none⟩,
        ⟨some 26, .mov (.tmp 0), none⟩,
        ⟨some 27, .mov (.tmp 7), none⟩,
        ⟨some 28, .mov (.tmp 8), none⟩,
        ⟨some 29, .call (.lit (.fn (.func 44) [] [])) [.tmp 26, .tmp 27, .tmp 28], none⟩,
        ⟨some 30, .call (.lit (.fn (.func 58) [] [])) [.tmp 24, .tmp 25, .tmp 29, .lit (.int .i64 1)], none⟩,
        ⟨some 9, .mov (.tmp 30), none⟩])
     (.seq (.draw [(⟨some 31, .mov (.tmp 0), none⟩, 0),
         (⟨some 32, .mov (.tmp 0), none⟩, 0),
         (⟨some 33, .mov (.tmp 9), none⟩, 0),
         (⟨some 35, .mov (.tmp 0), none⟩, 0),
         (⟨some 36, .nilck (.tmp 35), none⟩, 0),
         (⟨some 37, .faddr 1 (.tmp 36), none⟩, 0),
         (⟨some 38, .load none (.tmp 37), none⟩, 1),
         (⟨some 34, .call (.lit (.fn (.func 59) [] [])) [.tmp 32, .lit (.int .i64 0), .tmp 33], none⟩, 0),
         (⟨some 39, .call (.lit (.fn (.func 58) [] [])) [.tmp 31, .tmp 34, .tmp 38, .lit (.int .i64 1)], none⟩, 0),
         (⟨some 4, .mov (.tmp 39), none⟩, 0)])
      .ret)))))⟩
theorem ok63 : FnOK Go.Proofs.Try.prog 63 af63 := ⟨Go.Proofs.Try.f63, Go.Proofs.Try.func63, by kernel_rfl, by kernel_rfl⟩
def af64 : AFn := ⟨30, [.tmp 4], .seq (.ops [⟨some 4, .mov (.lit (.int .i64 0)), none⟩])
 (.seq (.seq (.ops [⟨some 7, .mov (.tmp 1), none⟩,
      ⟨some 8, .bin .lss .no (.tmp 7) (.lit (.int .i64 6)), none⟩])
   (.cond (.tmp 8) (.seq (.ops [⟨some 9, .mov (.tmp 0), none⟩,
        ⟨some 10, .mov (.tmp 1), none⟩,
        ⟨some 11, .nilck (.tmp 9), none⟩,
        ⟨some 12, .faddr 2 (.tmp 11), none⟩,
        ⟨some 13, .iaddr (some 6) 1 (.tmp 12) (.tmp 10), none⟩,
        ⟨some 14, .load none (.tmp 13), none⟩,
        ⟨some 4, .mov (.tmp 14), none⟩])
     .ret) .skip))
  (.seq (.ops [⟨some 15, .mov (.tmp 0), none⟩,
      ⟨some 16, .mov (.tmp 1), none⟩,
      ⟨some 17, .bin .quo .no (.tmp 16) (.lit (.int .i64 2)), none⟩,
      ⟨some 18, .call (.lit (.fn (.func 64) [] [])) [.tmp 15, .tmp 17], none⟩,
      ⟨some 5, .mov (.tmp 18), none⟩])
   (.seq (.ops [⟨some 19, .mov (.tmp 0), none⟩,
       ⟨some 20, .mov (.tmp 5), none⟩,
       ⟨some 21, .mov (.tmp 5), none⟩,
       ⟨some 22, .call (.lit (.fn (.func 65) [] [])) [.tmp 19, .tmp 20, .tmp 21], none⟩,
       ⟨some 6, .mov (.tmp 22), none⟩])
    (.seq (.seq (.ops [⟨some 23, .mov (.tmp 1), none⟩,
         ⟨some 24, .bin .rem .no (.tmp 23) (.lit (.int .i64 2)), none⟩,
         ⟨some 25, .bin .eql .no (.tmp 24) (.lit (.int .i64 1)), none⟩])
      (.cond (.tmp 25) (.ops [⟨some 26, .mov (.tmp 0), none⟩,
          ⟨some 27, .mov (.tmp 6), none⟩,
          ⟨some 28, .call (.lit (.fn (.func 65) [] [])) [.tmp 26, .tmp 27, .lit (.int .i64 1)], none⟩,
          ⟨some 6, .mov (.tmp 28), none⟩]) .skip))
     (.seq (.ops [⟨some 29, .mov (.tmp 6), none⟩,
         ⟨some 4, .mov (.tmp 29), none⟩])
      .ret)))))⟩
theorem ok64 : FnOK Go.Proofs.Try.prog 64 af64 := ⟨Go.Proofs.Try.f64, Go.Proofs.Try.func64, by kernel_rfl, by kernel_rfl⟩
def af65 : AFn := ⟨17, [.tmp 6], .seq (.ops [⟨some 6, .mov (.lit (.int .i64 0)), none⟩])
 (.seq (.draw [(⟨some 7, .mov (.tmp 0), none⟩, 0),
     (⟨some 8, .mov (.tmp 0), none⟩, 0),
     (⟨some 9, .mov (.tmp 1), none⟩, 0),
     (⟨some 10, .mov (.tmp 2), none⟩, 0),
     (⟨some 12, .mov (.tmp 0), none⟩, 0),
     (⟨some 13, .nilck (.tmp 12), none⟩, 0),
     (⟨some 14, .faddr 1 (.tmp 13), none⟩, 0),
     (⟨some 15, .load none (.tmp 14), none⟩, 1),
     (⟨some 11, .call (.lit (.fn (.func 67) [] [])) [.tmp 8, .tmp 9, .lit (.int .i64 0), .tmp 10], none⟩, 0),
     (⟨some 16, .call (.lit (.fn (.func 58) [] [])) [.tmp 7, .tmp 11, .tmp 15, .lit (.int .i64 1)], none⟩, 0),
     (⟨some 6, .mov (.tmp 16), none⟩, 0)])
  .ret)⟩
theorem ok65 : FnOK Go.Proofs.Try.prog 65 af65 := ⟨Go.Proofs.Try.f65, Go.Proofs.Try.func65, by kernel_rfl, by kernel_rfl⟩
def af66 : AFn := ⟨65, [.tmp 2], .seq (.ops [⟨some 2, .mov (.lit (.int .i64 0)), none⟩])
 (.seq (.ops [⟨some 9, .mov (.tmp 0), none⟩,
     ⟨some 10, .mov (.tmp 0), none⟩,
     ⟨some 11, .call (.lit (.fn (.func 64) [] [])) [.tmp 10, .lit (.int .i64 17)], none⟩,
     ⟨some 12, .call (.lit (.fn (.func 63) [] [])) [.tmp 9, .tmp 11], none⟩,
     ⟨some 3, .mov (.tmp 12), none⟩])
  (.seq (.ops [⟨some 13, .mov (.tmp 0), none⟩,
      ⟨some 14, .mov (.tmp 3), none⟩,
      ⟨some 15, .mov (.tmp 3), none⟩,
      ⟨some 16, .call (.lit (.fn (.func 65) [] [])) [.tmp 13, .tmp 14, .tmp 15], none⟩,
      ⟨some 4, .mov (.tmp 16), none⟩])
   (.seq (.ops [⟨some 17, .mov (.tmp 0), none⟩,
       ⟨some 18, .mov (.tmp 0), none⟩,
       ⟨some 19, .mov (.tmp 0), none⟩,
       ⟨some 20, .call (.lit (.fn (.func 64) [] [])) [.tmp 19, .lit (.int .i64 34)], none⟩,
       ⟨some 21, .mov (.tmp 4), none⟩,
       ⟨some 22, .call (.lit (.fn (.func 62) [] [])) [.tmp 18, .tmp 20, .tmp 21], none⟩,
       ⟨some 23, .call (.lit (.fn (.func 63) [] [])) [.tmp 17, .tmp 22], none⟩,
       ⟨some 5, .mov (.tmp 23), none⟩])
    (.seq (.ops [⟨some 24, .mov (.tmp 0), none⟩,
        ⟨some 25, .mov (.tmp 0), none⟩,
        ⟨some 26, .mov (.tmp 0), none⟩,
        ⟨some 27, .call (.lit (.fn (.func 64) [] [])) [.tmp 26, .lit (.int .i64 34)], none⟩,
        ⟨some 28, .mov (.tmp 4), none⟩,
        ⟨some 29, .call (.lit (.fn (.func 65) [] [])) [.tmp 25, .tmp 27, .tmp 28], none⟩,
        ⟨some 30, .call (.lit (.fn (.func 63) [] [])) [.tmp 24, .tmp 29], none⟩,
        ⟨some 6, .mov (.tmp 30), none⟩])
     (.seq (.ops [⟨some 31, .mov (.tmp 0), none⟩,
         ⟨some 32, .mov (.tmp 0), none⟩,
         ⟨some 33, .call (.lit (.fn (.func 64) [] [])) [.tmp 32, .lit (.int .i64 17)], none⟩,
         ⟨some 34, .mov (.tmp 0), none⟩,
         ⟨some 35, .mov (.tmp 4), none⟩,
         ⟨some 36, .mov (.tmp 3), none⟩,
         ⟨some 37, .call (.lit (.fn (.func 65) [] [])) [.tmp 34, .tmp 35, .tmp 36], none⟩,
         ⟨some 38, .call (.lit (.fn (.func 65) [] [])) [.tmp 31, .tmp 33, .tmp 37], none⟩,
         ⟨some 7, .mov (.tmp 38), none⟩])
      (.seq (.ops [⟨some 39, .mov (.tmp 0), none⟩,
          ⟨some 40, .mov (.tmp 0), none⟩,
          ⟨some 41, .mov (.tmp 0), none⟩,
          ⟨some 42, .mov (.tmp 7), none⟩,
          ⟨some 43, .mov (.tmp 5), none⟩,
          ⟨some 44, .call (.lit (.fn (.func 62) [] [])) [.tmp 41, .tmp 42, .tmp 43], none⟩,
          ⟨some 45, .mov (.tmp 0), none⟩,
          ⟨some 46, .mov (.tmp 6), none⟩,
          ⟨some 47, .mov (.tmp 6), none⟩,
          ⟨some 48, .call (.lit (.fn (.func 65) [] [])) [.tmp 45, .tmp 46, .tmp 47], none⟩,
          ⟨some 49, .call (.lit (.fn (.func 62) [] [])) [.tmp 40, .tmp 44, .tmp 48], none⟩,
          ⟨some 50, .call (.lit (.fn (.func 63) [] [])) [.tmp 39, .tmp 49], none⟩,
          ⟨some 8, .mov (.tmp 50), none⟩])
       (.seq (.ops [⟨some 51, .mov (.tmp 0), none⟩,
           ⟨some 52, .mov (.tmp 0), none⟩,
           ⟨some 53, .mov (.tmp 0), none⟩,
           ⟨some 54, .mov (.tmp 0), none⟩,
           ⟨some 55, .mov (.tmp 3), none⟩,
           ⟨some 56, .call (.lit (.fn (.func 62) [] [])) [.tmp 54, .tmp 55, .lit (.int .i64 1)], none⟩,
           ⟨some 57, .mov (.tmp 5), none⟩,
           ⟨some 58, .call (.lit (.fn (.func 65) [] [])) [.tmp 53, .tmp 56, .tmp 57], none⟩,
           ⟨some 59, .mov (.tmp 0), none⟩,
           ⟨some 60, .mov (.tmp 8), none⟩,
           ⟨some 61, .mov (.tmp 8), none⟩,
           ⟨some 62, .call (.lit (.fn (.func 65) [] [])) [.tmp 59, .tmp 60, .tmp 61], none⟩,
           ⟨some 63, .call (.lit (.fn (.func 65) [] [])) [.tmp 52, .tmp 58, .tmp 62], none⟩,
           ⟨some 64, .call (.lit (.fn (.func 61) [] [])) [.tmp 51, .tmp 63, .lit (.int .i64 4)], none⟩,
           ⟨some 2, .mov (.tmp 64), none⟩])
        .ret)))))))⟩
theorem ok66 : FnOK Go.Proofs.Try.prog 66 af66 := ⟨Go.Proofs.Try.f66, Go.Proofs.Try.func66, by kernel_rfl, by kernel_rfl⟩
def af67 : AFn := ⟨15, [.tmp 8], .seq (.ops [⟨some 8, .mov (.lit (.int .i64 0)), none⟩])
 (.seq (.ops [⟨some 9, .mov (.tmp 0), none⟩,
     ⟨some 10, .mov (.tmp 1), none⟩,
     ⟨some 11, .mov (.tmp 2), none⟩,
     ⟨some 12, .mov (.tmp 3), none⟩,
     ⟨some 13, .build [.int .i64 0, .int .i64 0, .int .i64 0, .int .i64 0, .int .i64 0, .int .i64 0] [(0, (1, .lit (.int .i64 2))), (1, (1, .tmp 10)), (2, (1, .tmp 11)), (3, (1, .tmp 12))], none⟩,
     ⟨some 14, .call (.lit (.fn (.func 69) [] [])) [.tmp 9, .tmp 13], none⟩,
     ⟨some 8, .mov (.tmp 14), none⟩])
  .ret)⟩
theorem ok67 : FnOK Go.Proofs.Try.prog 67 af67 := ⟨Go.Proofs.Try.f67, Go.Proofs.Try.func67, by kernel_rfl, by kernel_rfl⟩
def af68 : AFn := ⟨8, [.tmp 6], .seq (.ops [⟨some 3, .box (.tmp 0), none⟩,
    ⟨some 4, .box (.tmp 1), none⟩,
    ⟨some 5, .box (.tmp 2), none⟩,
    ⟨some 6, .mov (.lit .nilf), none⟩])
 (.seq (.ops [⟨some 7, .mkfn (.func 87) [] [.tmp 4, .tmp 3, .tmp 5], none⟩,
     ⟨some 6, .mov (.tmp 7), none⟩])
  .ret)⟩
theorem ok68 : FnOK Go.Proofs.Try.prog 68 af68 := ⟨Go.Proofs.Try.f68, Go.Proofs.Try.func68, by kernel_rfl, by kernel_rfl⟩
def af69 : AFn := ⟨21, [.tmp 4], .seq (.ops [⟨some 3, .box (.tmp 1), none⟩,
    ⟨some 4, .mov (.lit (.int .i64 0)), none⟩])
 (.seq (.draw [(⟨some 5, .mov (.tmp 0), none⟩, 0),
     (⟨some 6, .mov (.tmp 0), none⟩, 0),
     (⟨some 7, .nilck (.tmp 6), none⟩, 0),
     (⟨some 8, .faddr 0 (.tmp 7), none⟩, 0),
     (⟨some 9, .load none (.tmp 8), none⟩, 0),
     (⟨some 10, .load (some 6) (.tmp 3), none⟩, 0),
     (⟨some 11, .bslice 1 6 [.int .i64 0, .int .i64 0, .int .i64 0, .int .i64 0, .int .i64 0, .int .i64 0] [(0, .tmp 10)], none⟩, 0),
     (⟨some 12, .append 6 48 [.int .i64 0, .int .i64 0, .int .i64 0, .int .i64 0, .int .i64 0, .int .i64 0] (.tmp 9) (.tmp 11), none⟩, 0),
     (⟨some 13, .nilck (.tmp 5), none⟩, 0),
     (⟨some 14, .faddr 0 (.tmp 13), none⟩, 0),
     (⟨none, .store 1 (.tmp 14) (.tmp 12), none⟩, 0)])
  (.seq (.ops [⟨some 15, .mov (.tmp 0), none⟩,
      ⟨some 16, .nilck (.tmp 15), none⟩,
      ⟨some 17, .faddr 0 (.tmp 16), none⟩,
      ⟨some 18, .load none (.tmp 17), none⟩,
      ⟨some 19, .len 1 (.tmp 18), none⟩,
      ⟨some 20, .bin .add .no (.tmp 19) (.lit (.int .i64 1)), none⟩,
      ⟨some 4, .mov (.tmp 20), none⟩])
   .ret))⟩
theorem ok69 : FnOK Go.Proofs.Try.prog 69 af69 := ⟨Go.Proofs.Try.f69, Go.Proofs.Try.func69, by kernel_rfl, by kernel_rfl⟩
def af70 : AFn := ⟨12, [.tmp 6], .seq (.ops [⟨some 6, .mov (.lit (.int .i64 0)), none⟩])
 (.seq (.ops [⟨some 7, .mov (.tmp 0), none⟩,
     ⟨some 8, .mov (.tmp 1), none⟩,
     ⟨some 9, .mov (.tmp 2), none⟩,
     ⟨some 10, .build [.int .i64 0, .int .i64 0, .int .i64 0, .int .i64 0, .int .i64 0, .int .i64 0] [(0, (1, .lit (.int .i64 6))), (1, (1, .tmp 8)), (2, (1, .tmp 9))], none⟩,
     ⟨some 11, .call (.lit (.fn (.func 69) [] [])) [.tmp 7, .tmp 10], none⟩,
     ⟨some 6, .mov (.tmp 11), none⟩])
  .ret)⟩
theorem ok70 : FnOK Go.Proofs.Try.prog 70 af70 := ⟨Go.Proofs.Try.f70, Go.Proofs.Try.func70, by kernel_rfl, by kernel_rfl⟩
def af71 : AFn := ⟨25, [.tmp 3], .seq (.ops [⟨some 3, .mov (.lit (.int .i64 0)), none⟩])
 (.seq (.block 0 (.seq (.ops [⟨some 5, .mov (.tmp 0), none⟩,
       ⟨some 6, .bin .eql .no (.tmp 5) (.lit (.int .i64 0)), none⟩,
       ⟨some 4, .mov (.tmp 6), none⟩])
    (.cond (.tmp 4) (.seq (.ops [⟨some 3, .mov (.lit (.int .i64 0)), none⟩])
      .ret) (.seq (.ops [⟨some 8, .mov (.tmp 0), none⟩,
         ⟨some 9, .bin .lss .no (.tmp 8) (.lit (.int .i64 0)), none⟩,
         ⟨some 7, .mov (.tmp 9), none⟩])
      (.cond (.tmp 7) (.seq (.draw [(⟨some 10, .load none (.tmp 1), none⟩, 0),
           (⟨some 11, .load none (.tmp 1), none⟩, 0),
           (⟨some 12, .mov (.tmp 0), none⟩, 0),
           (⟨some 13, .un .neg (.tmp 12), none⟩, 0),
           (⟨some 14, .nilck (.tmp 11), none⟩, 0),
           (⟨some 15, .faddr 2 (.tmp 14), none⟩, 0),
           (⟨some 16, .iaddr (some 6) 1 (.tmp 15) (.tmp 13), none⟩, 0),
           (⟨some 17, .load none (.tmp 16), none⟩, 0),
           (⟨some 18, .call (.lit (.fn (.func 60) [] [])) [.tmp 10, .tmp 17], none⟩, 0),
           (⟨some 3, .mov (.tmp 18), none⟩, 0)])
        .ret) .skip)))))
  (.seq (.ops [⟨some 19, .load none (.tmp 1), none⟩,
      ⟨some 20, .mov (.tmp 0), none⟩,
      ⟨some 21, .nilck (.tmp 19), none⟩,
      ⟨some 22, .faddr 2 (.tmp 21), none⟩,
      ⟨some 23, .iaddr (some 6) 1 (.tmp 22) (.tmp 20), none⟩,
      ⟨some 24, .load none (.tmp 23), none⟩,
      ⟨some 3, .mov (.tmp 24), none⟩])
   .ret))⟩
theorem ok71 : FnOK Go.Proofs.Try.prog 71 af71 := ⟨Go.Proofs.Try.f71, Go.Proofs.Try.func71, by kernel_rfl, by kernel_rfl⟩
def af72 : AFn := ⟨5, [.tmp 2], .seq (.ops [⟨some 2, .mov (.lit (.bool false)), none⟩])
 (.seq (.ops [⟨some 3, .mov (.tmp 0), none⟩,
     ⟨some 4, .call (.lit (.fn (.func 89) [] [])) [.tmp 3, .lit (.fn (.func 90) [] [])], none⟩,
     ⟨some 2, .mov (.tmp 4), none⟩])
  .ret)⟩
theorem ok72 : FnOK Go.Proofs.Try.prog 72 af72 := ⟨Go.Proofs.Try.f72, Go.Proofs.Try.func72, by kernel_rfl, by kernel_rfl⟩
def af73 : AFn := ⟨22, [.tmp 2], .seq (.ops [⟨some 2, .mov (.lit (.int .i64 0)), none⟩])
 (.seq (.seq (.ops [⟨some 5, .mov (.tmp 0), none⟩,
      ⟨some 6, .call (.lit (.fn (.func 91) [] [])) [.tmp 5], none⟩,
      ⟨some 7, .len 1 (.tmp 6), none⟩,
      ⟨some 8, .mov (.lit (.int .i64 0)), none⟩])
   (.block 0 (.loop (.seq (.ops [⟨some 9, .bin .lss .no (.tmp 8) (.tmp 7), none⟩])
      (.seq (.cond (.tmp 9) .skip (.exit 0))
       (.seq (.block 1 (.seq (.ops [⟨some 10, .iaddr none 2 (.tmp 6) (.tmp 8), none⟩,
             ⟨some 11, .load (some 2) (.tmp 10), none⟩,
             ⟨some 4, .alloc [.int .i64 0, .int .i64 0], none⟩,
             ⟨none, .store 2 (.tmp 4) (.tmp 11), none⟩])
          (.draw [(⟨some 12, .mov (.tmp 0), none⟩, 0),
             (⟨some 13, .faddr 0 (.tmp 4), none⟩, 0),
             (⟨some 14, .load none (.tmp 13), none⟩, 0),
             (⟨some 15, .bin .quo .no (.tmp 12) (.tmp 14), none⟩, 0),
             (⟨some 16, .faddr 0 (.tmp 4), none⟩, 0),
             (⟨some 17, .load none (.tmp 16), none⟩, 0),
             (⟨some 18, .bin .sub .no (.tmp 17) (.lit (.int .i64 1)), none⟩, 0),
             (⟨some 19, .bin .mul .no (.tmp 15) (.tmp 18), none⟩, 0),
             (⟨some 0, .mov (.tmp 19), none⟩, 0)])))
        (.ops [⟨some 20, .bin .add .no (.tmp 8) (.lit (.int .i64 1)), none⟩,
           ⟨some 8, .mov (.tmp 20), none⟩])))))))
  (.seq (.ops [⟨some 21, .mov (.tmp 0), none⟩,
      ⟨some 2, .mov (.tmp 21), none⟩])
   .ret))⟩
theorem ok73 : FnOK Go.Proofs.Try.prog 73 af73 := ⟨Go.Proofs.Try.f73, Go.Proofs.Try.func73, by kernel_rfl, by kernel_rfl⟩
def af74 : AFn := ⟨16, [.cell 2 (some 2)], .seq (.ops [⟨some 2, .alloc [.bool false, .str []], none⟩])
 (.seq (.seq (.ops [⟨some 3, .mov (.tmp 0), none⟩,
      ⟨some 4, .bin .lss .no (.tmp 3) (.lit (.int .i64 0)), none⟩])
   (.cond (.tmp 4) (.seq (.ops [⟨some 5, .mov (.tmp 0), none⟩,
        ⟨some 6, .bin .add .no (.tmp 5) (.lit (.int .i64 1)), none⟩,
        ⟨some 7, .un .neg (.tmp 6), none⟩,
        ⟨some 8, .toInt .u64 (.tmp 7), none⟩,
        ⟨some 9, .bin .add .no (.tmp 8) (.lit (.int .u64 1)), none⟩,
        ⟨some 10, .call (.lit (.fn (.func 92) [] [])) [.tmp 9], none⟩,
        ⟨some 11, .build [.bool false, .str []] [(0, (1, .lit (.bool true))), (1, (1, .tmp 10))], none⟩,
        ⟨none, .store 2 (.tmp 2) (.tmp 11), none⟩])
     .ret) .skip))
  (.seq (.ops [⟨some 12, .mov (.tmp 0), none⟩,
      ⟨some 13, .toInt .u64 (.tmp 12), none⟩,
      ⟨some 14, .call (.lit (.fn (.func 92) [] [])) [.tmp 13], none⟩,
      ⟨some 15, .build [.bool false, .str []] [(1, (1, .tmp 14))], none⟩,
      ⟨none, .store 2 (.tmp 2) (.tmp 15), none⟩])
   .ret))⟩
theorem ok74 : FnOK Go.Proofs.Try.prog 74 af74 := ⟨Go.Proofs.Try.f74, Go.Proofs.Try.func74, by kernel_rfl, by kernel_rfl⟩
def af75 : AFn := ⟨5, [.cell 2 (some 3)], .seq (.ops [⟨some 1, .box (.tmp 0), none⟩,
    ⟨some 2, .alloc [.bool false, .str [], .str []], none⟩])
 (.seq (.ops [⟨some 3, .load (some 2) (.tmp 1), none⟩,
     ⟨some 4, .build [.bool false, .str [], .str []] [(0, (2, .tmp 3)), (2, (1, .lit (.str [1])))], none⟩,
     ⟨none, .store 3 (.tmp 2) (.tmp 4), none⟩])
  .ret)⟩
theorem ok75 : FnOK Go.Proofs.Try.prog 75 af75 := ⟨Go.Proofs.Try.f75, Go.Proofs.Try.func75, by kernel_rfl, by kernel_rfl⟩
def af76 : AFn := ⟨14, [.cell 2 (some 2)], .seq (.ops [⟨some 2, .alloc [.bool false, .str []], none⟩])
 (.seq (.seq (.ops [⟨some 3, .mov (.tmp 0), none⟩,
      ⟨some 4, .bin .lss .no (.tmp 3) (.lit (.int .i64 0)), none⟩])
   (.cond (.tmp 4) (.seq (.ops [⟨some 5, .mov (.tmp 0), none⟩,
        ⟨some 6, .toInt .u64 (.tmp 5), none⟩,
        ⟨some 7, .un .neg (.tmp 6), none⟩,
        ⟨some 8, .call (.lit (.fn (.func 93) [] [])) [.tmp 7], none⟩,
        ⟨some 9, .build [.bool false, .str []] [(0, (1, .lit (.bool true))), (1, (1, .tmp 8))], none⟩,
        ⟨none, .store 2 (.tmp 2) (.tmp 9), none⟩])
     .ret) .skip))
  (.seq (.ops [⟨some 10, .mov (.tmp 0), none⟩,
      ⟨some 11, .toInt .u64 (.tmp 10), none⟩,
      ⟨some 12, .call (.lit (.fn (.func 93) [] [])) [.tmp 11], none⟩,
      ⟨some 13, .build [.bool false, .str []] [(1, (1, .tmp 12))], none⟩,
      ⟨none, .store 2 (.tmp 2) (.tmp 13), none⟩])
   .ret))⟩
theorem ok76 : FnOK Go.Proofs.Try.prog 76 af76 := ⟨Go.Proofs.Try.f76, Go.Proofs.Try.func76, by kernel_rfl, by kernel_rfl⟩
def af77 : AFn := ⟨7, [.tmp 2], .seq (.ops [⟨some 1, .box (.tmp 0), none⟩,
    ⟨some 2, .mov (.lit (.bool false)), none⟩])
 (.seq (.ops [⟨some 3, .faddr 0 (.tmp 1), none⟩,
     ⟨some 4, .faddr 1 (.tmp 3), none⟩,
     ⟨some 5, .load none (.tmp 4), none⟩,
     ⟨some 6, .bin .eql .no (.tmp 5) (.lit (.str [])), none⟩,
     ⟨some 2, .mov (.tmp 6), none⟩])
  .ret)⟩
theorem ok77 : FnOK Go.Proofs.Try.prog 77 af77 := ⟨Go.Proofs.Try.f77, Go.Proofs.Try.func77, by kernel_rfl, by kernel_rfl⟩
def af78 : AFn := ⟨21, [.tmp 4], .seq (.ops [⟨some 2, .box (.tmp 0), none⟩,
    ⟨some 4, .mov (.lit .nils), none⟩])
 (.seq (.ops [⟨some 5, .mov (.lit .nils), none⟩])
  (.seq (.seq (.ops [⟨some 6, .mov (.lit (.int .i64 0)), none⟩])
    (.block 0 (.loop (.seq (.seq (.ops [⟨some 7, .mov (.tmp 6), none⟩,
           ⟨some 8, .mov (.tmp 1), none⟩,
           ⟨some 9, .bin .lss .no (.tmp 7) (.tmp 8), none⟩])
        (.cond (.tmp 9) .skip (.exit 0)))
       (.seq (.block 1 (.ops [⟨some 12, .mov (.tmp 5), none⟩,
            ⟨some 13, .call (.lit (.fn (.func 48) [] [])) [.lit (.int .i64 0)], none⟩,
            ⟨some 14, .bslice 1 3 [.bool false, .str [], .str []] [(0, .tmp 13)], none⟩,
            ⟨some 15, .append 3 40 [.bool false, .str [], .str []] (.tmp 12) (.tmp 14), none⟩,
            ⟨some 5, .mov (.tmp 15), none⟩]))
        (.ops [⟨some 10, .mov (.tmp 6), none⟩,
           ⟨some 11, .bin .add .no (.tmp 10) (.lit (.int .i64 1)), none⟩,
           ⟨some 6, .mov (.tmp 11), none⟩]))))))
   (.seq (.ops [⟨some 16, .mov (.tmp 5), none⟩,
       ⟨some 17, .load (some 3) (.tmp 2), none⟩,
       ⟨some 18, .bslice 1 3 [.bool false, .str [], .str []] [(0, .tmp 17)], none⟩,
       ⟨some 19, .append 3 40 [.bool false, .str [], .str []] (.tmp 16) (.tmp 18), none⟩,
       ⟨some 20, .call (.lit (.fn (.func 34) [] [])) [.tmp 19], none⟩,
       ⟨some 4, .mov (.tmp 20), none⟩])
    .ret)))⟩
theorem ok78 : FnOK Go.Proofs.Try.prog 78 af78 := ⟨Go.Proofs.Try.f78, Go.Proofs.Try.func78, by kernel_rfl, by kernel_rfl⟩
def af79 : AFn := ⟨37, [.tmp 4, .tmp 5], .seq (.ops [⟨some 4, .mov (.lit .nils), none⟩,
    ⟨some 5, .mov (.lit .nils), none⟩])
 (.seq (.ops [⟨some 6, .mov (.lit .nils), none⟩])
  (.seq (.ops [⟨some 9, .mov (.tmp 0), none⟩,
      ⟨some 10, .call (.lit (.fn (.func 34) [] [])) [.tmp 9], none⟩,
      ⟨some 7, .mov (.tmp 10), none⟩])
   (.seq (.block 0 (.loop (.seq (.seq (.ops [⟨some 11, .mov (.tmp 7), none⟩,
           ⟨some 12, .len 1 (.tmp 11), none⟩,
           ⟨some 13, .mov (.tmp 1), none⟩,
           ⟨some 14, .len 1 (.tmp 13), none⟩,
           ⟨some 15, .bin .geq .no (.tmp 12) (.tmp 14), none⟩])
        (.cond (.tmp 15) .skip (.exit 0)))
       (.block 1 (.seq (.ops [⟨some 16, .mov (.tmp 7), none⟩,
            ⟨some 17, .call (.lit (.fn (.func 95) [] [])) [.tmp 16], none⟩,
            ⟨some 18, .mov (.tmp 1), none⟩,
            ⟨some 19, .call (.lit (.fn (.func 95) [] [])) [.tmp 18], none⟩,
            ⟨some 20, .call (.lit (.fn (.func 94) [] [])) [.tmp 17, .tmp 19], none⟩,
            ⟨some 21, .mov (.tmp 7), none⟩,
            ⟨some 22, .len 1 (.tmp 21), none⟩,
            ⟨some 23, .mov (.tmp 1), none⟩,
            ⟨some 24, .len 1 (.tmp 23), none⟩,
            ⟨some 25, .bin .sub .no (.tmp 22) (.tmp 24), none⟩,
            ⟨some 26, .call (.lit (.fn (.func 78) [] [])) [.tmp 20, .tmp 25], none⟩,
            ⟨some 8, .mov (.tmp 26), none⟩])
         (.seq (.ops [⟨some 27, .mov (.tmp 6), none⟩,
             ⟨some 28, .mov (.tmp 8), none⟩,
             ⟨some 29, .call (.lit (.fn (.func 35) [] [])) [.tmp 27, .tmp 28], none⟩,
             ⟨some 6, .mov (.tmp 29), none⟩])
          (.ops [⟨some 30, .mov (.tmp 7), none⟩,
             ⟨some 31, .mov (.tmp 8), none⟩,
             ⟨some 32, .mov (.tmp 1), none⟩,
             ⟨some 33, .call (.lit (.fn (.func 38) [] [])) [.tmp 31, .tmp 32], none⟩,
             ⟨some 34, .call (.lit (.fn (.func 37) [] [])) [.tmp 30, .tmp 33], none⟩,
             ⟨some 7, .mov (.tmp 34), none⟩])))))))
    (.seq (.ops [⟨some 35, .mov (.tmp 6), none⟩,
        ⟨some 36, .mov (.tmp 7), none⟩,
        ⟨some 4, .mov (.tmp 35), none⟩,
        ⟨some 5, .mov (.tmp 36), none⟩])
     .ret))))⟩
theorem ok79 : FnOK Go.Proofs.Try.prog 79 af79 := ⟨Go.Proofs.Try.f79, Go.Proofs.Try.func79, by kernel_rfl, by kernel_rfl⟩
def af80 : AFn := ⟨10, [.tmp 2], .seq (.ops [⟨some 1, .box (.tmp 0), none⟩,
    ⟨some 2, .mov (.lit (.int .i64 0)), none⟩])
 (.seq (.block 0 (.seq (.ops [⟨some 4, .faddr 0 (.tmp 1), none⟩,
       ⟨some 5, .load none (.tmp 4), none⟩,
       ⟨some 3, .mov (.tmp 5), none⟩])
    (.cond (.tmp 3) (.seq (.ops [⟨some 2, .mov (.lit (.int .i64 (-1))), none⟩])
      .ret) (.seq (.ops [⟨some 7, .faddr 1 (.tmp 1), none⟩,
         ⟨some 8, .load none (.tmp 7), none⟩,
         ⟨some 9, .bin .eql .no (.tmp 8) (.lit (.str [])), none⟩,
         ⟨some 6, .mov (.tmp 9), none⟩])
      (.cond (.tmp 6) (.seq (.ops [⟨some 2, .mov (.lit (.int .i64 0)), none⟩])
        .ret) .skip)))))
  (.seq (.ops [⟨some 2, .mov (.lit (.int .i64 1)), none⟩])
   .ret))⟩
theorem ok80 : FnOK Go.Proofs.Try.prog 80 af80 := ⟨Go.Proofs.Try.f80, Go.Proofs.Try.func80, by kernel_rfl, by kernel_rfl⟩
def af81 : AFn := ⟨5, [.cell 2 (some 3)], .seq (.ops [⟨some 1, .box (.tmp 0), none⟩,
    ⟨some 2, .alloc [.bool false, .str [], .str []], none⟩])
 (.seq (.ops [⟨some 3, .load (some 2) (.tmp 1), none⟩,
     ⟨some 4, .build [.bool false, .str [], .str []] [(0, (2, .tmp 3)), (2, (1, .lit (.str [1])))], none⟩,
     ⟨none, .store 3 (.tmp 2) (.tmp 4), none⟩])
  .ret)⟩
theorem ok81 : FnOK Go.Proofs.Try.prog 81 af81 := ⟨Go.Proofs.Try.f81, Go.Proofs.Try.func81, by kernel_rfl, by kernel_rfl⟩
def af82 : AFn := ⟨40, [.cell 4 (some 2)], .seq (.ops [⟨some 2, .box (.tmp 0), none⟩,
    ⟨some 3, .box (.tmp 1), none⟩,
    ⟨some 4, .alloc [.bool false, .str []], none⟩])
 (.seq (.seq (.ops [⟨some 5, .faddr 0 (.tmp 2), none⟩,
      ⟨some 6, .load none (.tmp 5), none⟩,
      ⟨some 7, .faddr 0 (.tmp 3), none⟩,
      ⟨some 8, .load none (.tmp 7), none⟩,
      ⟨some 9, .bin .eql .bool (.tmp 6) (.tmp 8), none⟩])
   (.cond (.tmp 9) (.seq (.draw [(⟨some 10, .faddr 0 (.tmp 2), none⟩, 0),
        (⟨some 11, .load none (.tmp 10), none⟩, 1),
        (⟨some 12, .faddr 1 (.tmp 2), none⟩, 0),
        (⟨some 13, .load none (.tmp 12), none⟩, 0),
        (⟨some 14, .faddr 1 (.tmp 3), none⟩, 0),
        (⟨some 15, .load none (.tmp 14), none⟩, 0),
        (⟨some 16, .call (.lit (.fn (.func 97) [] [])) [.tmp 13, .tmp 15], none⟩, 0),
        (⟨some 17, .call (.lit (.fn (.func 96) [] [])) [.tmp 11, .tmp 16], none⟩, 0),
        (⟨none, .store 2 (.tmp 4) (.tmp 17), none⟩, 0)])
     .ret) .skip))
  (.seq (.seq (.ops [⟨some 18, .faddr 1 (.tmp 2), none⟩,
       ⟨some 19, .load none (.tmp 18), none⟩,
       ⟨some 20, .faddr 1 (.tmp 3), none⟩,
       ⟨some 21, .load none (.tmp 20), none⟩,
       ⟨some 22, .call (.lit (.fn (.func 98) [] [])) [.tmp 19, .tmp 21], none⟩,
       ⟨some 23, .bin .geq .no (.tmp 22) (.lit (.int .i64 0)), none⟩])
    (.cond (.tmp 23) (.seq (.draw [(⟨some 24, .faddr 0 (.tmp 2), none⟩, 0),
         (⟨some 25, .load none (.tmp 24), none⟩, 1),
         (⟨some 26, .faddr 1 (.tmp 2), none⟩, 0),
         (⟨some 27, .load none (.tmp 26), none⟩, 0),
         (⟨some 28, .faddr 1 (.tmp 3), none⟩, 0),
         (⟨some 29, .load none (.tmp 28), none⟩, 0),
         (⟨some 30, .call (.lit (.fn (.func 99) [] [])) [.tmp 27, .tmp 29], none⟩, 0),
         (⟨some 31, .call (.lit (.fn (.func 96) [] [])) [.tmp 25, .tmp 30], none⟩, 0),
         (⟨none, .store 2 (.tmp 4) (.tmp 31), none⟩, 0)])
      .ret) .skip))
   (.seq (.draw [(⟨some 32, .faddr 0 (.tmp 3), none⟩, 0),
       (⟨some 33, .load none (.tmp 32), none⟩, 1),
       (⟨some 34, .faddr 1 (.tmp 3), none⟩, 0),
       (⟨some 35, .load none (.tmp 34), none⟩, 0),
       (⟨some 36, .faddr 1 (.tmp 2), none⟩, 0),
       (⟨some 37, .load none (.tmp 36), none⟩, 0),
       (⟨some 38, .call (.lit (.fn (.func 99) [] [])) [.tmp 35, .tmp 37], none⟩, 0),
       (⟨some 39, .call (.lit (.fn (.func 96) [] [])) [.tmp 33, .tmp 38], none⟩, 0),
       (⟨none, .store 2 (.tmp 4) (.tmp 39), none⟩, 0)])
    .ret)))⟩
theorem ok82 : FnOK Go.Proofs.Try.prog 82 af82 := ⟨Go.Proofs.Try.f82, Go.Proofs.Try.func82, by kernel_rfl, by kernel_rfl⟩
def af83 : AFn := ⟨16, [.cell 4 (some 2)], .seq (.ops [⟨some 2, .box (.tmp 0), none⟩,
    ⟨some 3, .box (.tmp 1), none⟩,
    ⟨some 4, .alloc [.bool false, .str []], none⟩])
 (.seq (.draw [(⟨some 5, .faddr 0 (.tmp 2), none⟩, 0),
     (⟨some 6, .load none (.tmp 5), none⟩, 1),
     (⟨some 7, .faddr 0 (.tmp 3), none⟩, 0),
     (⟨some 8, .load none (.tmp 7), none⟩, 1),
     (⟨some 9, .bin .neq .bool (.tmp 6) (.tmp 8), none⟩, 0),
     (⟨some 10, .faddr 1 (.tmp 2), none⟩, 0),
     (⟨some 11, .load none (.tmp 10), none⟩, 0),
     (⟨some 12, .faddr 1 (.tmp 3), none⟩, 0),
     (⟨some 13, .load none (.tmp 12), none⟩, 0),
     (⟨some 14, .call (.lit (.fn (.func 100) [] [])) [.tmp 11, .tmp 13], none⟩, 0),
     (⟨some 15, .call (.lit (.fn (.func 96) [] [])) [.tmp 9, .tmp 14], none⟩, 0),
     (⟨none, .store 2 (.tmp 4) (.tmp 15), none⟩, 0)])
  .ret)⟩
theorem ok83 : FnOK Go.Proofs.Try.prog 83 af83 := ⟨Go.Proofs.Try.f83, Go.Proofs.Try.func83, by kernel_rfl, by kernel_rfl⟩
def af84 : AFn := ⟨6, [.cell 2 (some 2)], .seq (.ops [⟨some 1, .box (.tmp 0), none⟩,
    ⟨some 2, .alloc [.bool false, .str []], none⟩])
 (.seq (.ops [⟨some 3, .faddr 2 (.tmp 1), none⟩,
     ⟨some 4, .load none (.tmp 3), none⟩,
     ⟨some 5, .build [.bool false, .str []] [(1, (1, .tmp 4))], none⟩,
     ⟨none, .store 2 (.tmp 2) (.tmp 5), none⟩])
  .ret)⟩
theorem ok84 : FnOK Go.Proofs.Try.prog 84 af84 := ⟨Go.Proofs.Try.f84, Go.Proofs.Try.func84, by kernel_rfl, by kernel_rfl⟩
def af85 : AFn := ⟨42, [.cell 4 (some 3)], .seq (.ops [⟨some 2, .box (.tmp 0), none⟩,
    ⟨some 3, .box (.tmp 1), none⟩,
    ⟨some 4, .alloc [.bool false, .str [], .str []], none⟩])
 (.seq (.seq (.ops [⟨some 10, .faddr 1 (.tmp 3), none⟩,
      ⟨some 11, .load none (.tmp 10), none⟩,
      ⟨some 12, .bin .eql .no (.tmp 11) (.lit (.str [])), none⟩])
   (.cond (.tmp 12) (.seq (.ops [⟨some 13, .build [.bool false, .str [], .str []] [(2, (1, .lit (.str [1])))], none⟩,
        ⟨none, .store 3 (.tmp 4) (.tmp 13), none⟩])
     .ret) .skip))
  (.seq (.ops [⟨some 14, .faddr 1 (.tmp 2), none⟩,
      ⟨some 15, .load none (.tmp 14), none⟩,
      ⟨some 16, .faddr 1 (.tmp 3), none⟩,
      ⟨some 17, .load none (.tmp 16), none⟩,
      ⟨some 18, .call (.lit (.fn (.func 101) [] [])) [.tmp 15, .tmp 17], none⟩,
      ⟨some 5, .mov (.tmp 18), none⟩])
   (.seq (.ops [⟨some 20, .faddr 1 (.tmp 2), none⟩,
       ⟨some 21, .load none (.tmp 20), none⟩,
       ⟨some 22, .mov (.tmp 5), none⟩,
       ⟨some 23, .call (.lit (.fn (.func 102) [] [])) [.tmp 21, .tmp 22], none⟩,
       ⟨some 19, .mov (.tmp 23), none⟩,
       ⟨some 24, .extr 0 (.tmp 19), none⟩,
       ⟨some 25, .extr 1 (.tmp 19), none⟩,
       ⟨some 6, .mov (.tmp 24), none⟩,
       ⟨some 7, .mov (.tmp 25), none⟩])
    (.seq (.ops [⟨some 27, .faddr 1 (.tmp 3), none⟩,
        ⟨some 28, .load none (.tmp 27), none⟩,
        ⟨some 29, .mov (.tmp 5), none⟩,
        ⟨some 30, .call (.lit (.fn (.func 102) [] [])) [.tmp 28, .tmp 29], none⟩,
        ⟨some 26, .mov (.tmp 30), none⟩,
        ⟨some 31, .extr 0 (.tmp 26), none⟩,
        ⟨some 32, .extr 1 (.tmp 26), none⟩,
        ⟨some 8, .mov (.tmp 31), none⟩,
        ⟨some 9, .mov (.tmp 32), none⟩])
     (.seq (.ops [⟨some 33, .faddr 0 (.tmp 2), none⟩,
         ⟨some 34, .load none (.tmp 33), none⟩,
         ⟨some 35, .faddr 0 (.tmp 3), none⟩,
         ⟨some 36, .load none (.tmp 35), none⟩,
         ⟨some 37, .bin .neq .bool (.tmp 34) (.tmp 36), none⟩,
         ⟨some 38, .mov (.tmp 6), none⟩,
         ⟨some 39, .call (.lit (.fn (.func 96) [] [])) [.tmp 37, .tmp 38], none⟩,
         ⟨some 40, .mov (.tmp 8), none⟩,
         ⟨some 41, .build [.bool false, .str [], .str []] [(0, (2, .tmp 39)), (2, (1, .tmp 40))], none⟩,
         ⟨none, .store 3 (.tmp 4) (.tmp 41), none⟩])
      .ret)))))⟩
theorem ok85 : FnOK Go.Proofs.Try.prog 85 af85 := ⟨Go.Proofs.Try.f85, Go.Proofs.Try.func85, by kernel_rfl, by kernel_rfl⟩
def af86 : AFn := ⟨33, [.tmp 6], .seq (.ops [⟨some 6, .mov (.lit (.int .i64 0)), none⟩])
 (.seq (.ops [⟨some 12, .mov (.tmp 0), none⟩,
     ⟨some 13, .mov (.tmp 1), none⟩,
     ⟨some 14, .call (.lit (.fn (.func 42) [] [])) [.tmp 12, .tmp 13], none⟩,
     ⟨some 11, .mov (.tmp 14), none⟩,
     ⟨some 15, .extr 0 (.tmp 11), none⟩,
     ⟨some 16, .extr 1 (.tmp 11), none⟩,
     ⟨some 7, .mov (.tmp 15), none⟩,
     ⟨some 8, .mov (.tmp 16), none⟩])
  (.seq (.ops [⟨some 18, .mov (.tmp 0), none⟩,
      ⟨some 19, .mov (.tmp 2), none⟩,
      ⟨some 20, .call (.lit (.fn (.func 42) [] [])) [.tmp 18, .tmp 19], none⟩,
      ⟨some 17, .mov (.tmp 20), none⟩,
      ⟨some 21, .extr 0 (.tmp 17), none⟩,
      ⟨some 22, .extr 1 (.tmp 17), none⟩,
      ⟨some 9, .mov (.tmp 21), none⟩,
      ⟨some 10, .mov (.tmp 22), none⟩])
   (.seq (.draw [(⟨some 23, .mov (.tmp 0), none⟩, 0),
       (⟨some 24, .mov (.tmp 0), none⟩, 0),
       (⟨some 25, .mov (.tmp 8), none⟩, 0),
       (⟨some 26, .mov (.tmp 9), none⟩, 0),
       (⟨some 28, .mov (.tmp 0), none⟩, 0),
       (⟨some 29, .nilck (.tmp 28), none⟩, 0),
       (⟨some 30, .faddr 1 (.tmp 29), none⟩, 0),
       (⟨some 31, .load none (.tmp 30), none⟩, 1),
       (⟨some 27, .call (.lit (.fn (.func 44) [] [])) [.tmp 24, .tmp 25, .tmp 26], none⟩, 0),
       (⟨some 32, .call (.lit (.fn (.func 58) [] [])) [.tmp 23, .tmp 27, .tmp 31, .lit (.int .i64 0)], none⟩, 0),
       (⟨some 6, .mov (.tmp 32), none⟩, 0)])
    .ret)))⟩
theorem ok86 : FnOK Go.Proofs.Try.prog 86 af86 := ⟨Go.Proofs.Try.f86, Go.Proofs.Try.func86, by kernel_rfl, by kernel_rfl⟩
def af87 : AFn := ⟨71, [], .seq (.ops [⟨some 8, .bslice 1 1 [.int .i64 0] [(0, .lit (.int .i64 1))], none⟩,
    ⟨some 5, .mov (.tmp 8), none⟩])
 (.seq (.ops [⟨some 9, .load none (.tmp 1), none⟩,
     ⟨some 10, .mov (.lit (.int .i64 0)), none⟩])
  (.block 0 (.loop (.seq (.ops [⟨some 11, .bin .lss .no (.tmp 10) (.tmp 9), none⟩])
     (.seq (.cond (.tmp 11) .skip (.exit 0))
      (.seq (.block 1 (.seq (.ops [⟨some 12, .mov (.tmp 10), none⟩,
            ⟨some 6, .mov (.tmp 12), none⟩])
         (.seq (.draw [(⟨some 13, .mov (.tmp 6), none⟩, 0),
             (⟨some 14, .load none (.tmp 2), none⟩, 0),
             (⟨some 15, .nilck (.tmp 14), none⟩, 0),
             (⟨some 16, .faddr 9 (.tmp 15), none⟩, 0),
             (⟨some 17, .load none (.tmp 16), none⟩, 0),
             (⟨some 18, .load none (.tmp 2), none⟩, 0),
             (⟨some 19, .nilck (.tmp 18), none⟩, 0),
             (⟨some 20, .faddr 1 (.tmp 19), none⟩, 0),
             (⟨some 21, .load none (.tmp 20), none⟩, 0),
             (⟨some 22, .build [.int .i64 0, .int .i64 0, .int .i64 0, .int .i64 0] [(0, (1, .tmp 13)), (1, (1, .tmp 17)), (2, (1, .tmp 21)), (3, (1, .lit (.int .i64 1)))], none⟩, 0),
             (⟨some 7, .alloc [.int .i64 0, .int .i64 0, .int .i64 0, .int .i64 0], none⟩, 0),
             (⟨none, .store 4 (.tmp 7) (.tmp 22), none⟩, 0)])
          (.seq (.block 2 (.seq (.ops [⟨some 24, .mov (.tmp 6), none⟩,
                ⟨some 25, .bin .eql .no (.tmp 24) (.lit (.int .i64 1)), none⟩,
                ⟨some 23, .mov (.tmp 25), none⟩])
             (.cond (.tmp 23) (.ops [⟨some 26, .load none (.tmp 3), none⟩,
                 ⟨some 27, .faddr 2 (.tmp 7), none⟩,
                 ⟨none, .store 1 (.tmp 27) (.tmp 26), none⟩]) (.seq (.ops [⟨some 29, .mov (.tmp 6), none⟩,
                  ⟨some 30, .bin .gtr .no (.tmp 29) (.lit (.int .i64 1)), none⟩,
                  ⟨some 28, .mov (.tmp 30), none⟩])
               (.cond (.tmp 28) (.seq (.draw [(⟨some 31, .load none (.tmp 2), none⟩, 0),
                    (⟨some 32, .mov (.tmp 5), none⟩, 0),
                    (⟨some 33, .mov (.tmp 6), none⟩, 0),
                    (⟨some 34, .bin .sub .no (.tmp 33) (.lit (.int .i64 1)), none⟩, 0),
                    (⟨some 35, .iaddr none 1 (.tmp 32) (.tmp 34), none⟩, 0),
                    (⟨some 36, .load none (.tmp 35), none⟩, 0),
                    (⟨some 37, .mov (.tmp 5), none⟩, 0),
                    (⟨some 38, .mov (.tmp 6), none⟩, 0),
                    (⟨some 39, .bin .sub .no (.tmp 38) (.lit (.int .i64 2)), none⟩, 0),
                    (⟨some 40, .iaddr none 1 (.tmp 37) (.tmp 39), none⟩, 0),
                    (⟨some 41, .load none (.tmp 40), none⟩, 0),
                    (⟨some 42, .call (.lit (.fn (.func 59) [] [])) [.tmp 31, .tmp 36, .tmp 41], none⟩, 0),
                    (⟨some 43, .faddr 2 (.tmp 7), none⟩, 0),
                    (⟨none, .store 1 (.tmp 43) (.tmp 42), none⟩, 0)])
                 (.seq (.draw [(⟨some 44, .load none (.tmp 1), none⟩, 0),
                     (⟨some 45, .mov (.tmp 6), none⟩, 0),
                     (⟨some 47, .load none (.tmp 1), none⟩, 1),
                     (⟨some 48, .mov (.tmp 6), none⟩, 0),
                     (⟨some 49, .bin .sub .no (.tmp 48) (.lit (.int .i64 2)), none⟩, 0),
                     (⟨some 46, .call (.lit (.fn (.func 88) [] [])) [.tmp 44, .tmp 45], none⟩, 0),
                     (⟨some 50, .call (.lit (.fn (.func 88) [] [])) [.tmp 47, .tmp 49], none⟩, 0),
                     (⟨some 51, .bin .geq .no (.tmp 46) (.tmp 50), none⟩, 0)])
                  (.cond (.tmp 51) (.ops [⟨some 52, .faddr 3 (.tmp 7), none⟩,
                      ⟨none, .store 1 (.tmp 52) (.lit (.int .i64 0)), none⟩]) .skip))) .skip)))))
           (.seq (.seq (.ops [⟨some 53, .mov (.tmp 6), none⟩,
                ⟨some 54, .bin .gtr .no (.tmp 53) (.lit (.int .i64 0)), none⟩])
             (.cond (.tmp 54) (.ops [⟨some 55, .mov (.tmp 5), none⟩,
                 ⟨some 56, .load none (.tmp 2), none⟩,
                 ⟨some 57, .faddr 1 (.tmp 7), none⟩,
                 ⟨some 58, .load none (.tmp 57), none⟩,
                 ⟨some 59, .faddr 2 (.tmp 7), none⟩,
                 ⟨some 60, .load none (.tmp 59), none⟩,
                 ⟨some 61, .faddr 3 (.tmp 7), none⟩,
                 ⟨some 62, .load none (.tmp 61), none⟩,
                 ⟨some 63, .call (.lit (.fn (.func 58) [] [])) [.tmp 56, .tmp 58, .tmp 60, .tmp 62], none⟩,
                 ⟨some 64, .bslice 1 1 [.int .i64 0] [(0, .tmp 63)], none⟩,
                 ⟨some 65, .append 1 8 [.int .i64 0] (.tmp 55) (.tmp 64), none⟩,
                 ⟨some 5, .mov (.tmp 65), none⟩]) .skip))
            (.seq (.ops [⟨some 66, .mov (.tmp 0), none⟩,
                ⟨some 67, .load (some 4) (.tmp 7), none⟩,
                ⟨some 68, .call (.tmp 66) [.tmp 67], none⟩,
                ⟨some 69, .un .not (.tmp 68), none⟩])
             (.cond (.tmp 69) .ret .skip)))))))
       (.ops [⟨some 70, .bin .add .no (.tmp 10) (.lit (.int .i64 1)), none⟩,
          ⟨some 10, .mov (.tmp 70), none⟩])))))))⟩
theorem ok87 : FnOK Go.Proofs.Try.prog 87 af87 := ⟨Go.Proofs.Try.f87, Go.Proofs.Try.func87, by kernel_rfl, by kernel_rfl⟩
def af88 : AFn := ⟨10, [.tmp 4], .seq (.ops [⟨some 4, .mov (.lit (.int .i64 0)), none⟩])
 (.seq (.ops [⟨some 5, .mov (.tmp 1), none⟩,
     ⟨some 6, .mov (.tmp 0), none⟩,
     ⟨some 7, .mov (.tmp 1), none⟩,
     ⟨some 8, .bin .sub .no (.tmp 6) (.tmp 7), none⟩,
     ⟨some 9, .mn [.tmp 5, .tmp 8], none⟩,
     ⟨some 4, .mov (.tmp 9), none⟩])
  .ret)⟩
theorem ok88 : FnOK Go.Proofs.Try.prog 88 af88 := ⟨Go.Proofs.Try.f88, Go.Proofs.Try.func88, by kernel_rfl, by kernel_rfl⟩
def af89 : AFn := ⟨9, [.tmp 4], .seq (.ops [⟨some 4, .mov (.lit (.bool false)), none⟩])
 (.seq (.ops [⟨some 5, .mov (.tmp 0), none⟩,
     ⟨some 6, .mov (.tmp 1), none⟩,
     ⟨some 7, .call (.lit (.fn (.func 103) [] [])) [.tmp 5, .tmp 6], none⟩,
     ⟨some 8, .bin .geq .no (.tmp 7) (.lit (.int .i64 0)), none⟩,
     ⟨some 4, .mov (.tmp 8), none⟩])
  .ret)⟩
theorem ok89 : FnOK Go.Proofs.Try.prog 89 af89 := ⟨Go.Proofs.Try.f89, Go.Proofs.Try.func89, by kernel_rfl, by kernel_rfl⟩
def af90 : AFn := ⟨9, [.tmp 2], .seq (.ops [⟨some 2, .mov (.lit (.bool false)), none⟩])
 (.seq (.ops [⟨some 3, .mov (.tmp 0), none⟩,
     ⟨some 4, .bin .lss .no (.tmp 3) (.lit (.int .i64 1)), none⟩,
     ⟨some 5, .mov (.tmp 4), none⟩,
     ⟨some 6, .mov (.tmp 0), some (5, false)⟩,
     ⟨some 7, .bin .gtr .no (.tmp 6) (.lit (.int .i64 2147483647)), some (5, false)⟩,
     ⟨some 8, .pick (.tmp 5) (.lit (.bool true)) (.tmp 7), none⟩,
     ⟨some 2, .mov (.tmp 8), none⟩])
  .ret)⟩
theorem ok90 : FnOK Go.Proofs.Try.prog 90 af90 := ⟨Go.Proofs.Try.f90, Go.Proofs.Try.func90, by kernel_rfl, by kernel_rfl⟩
def af91 : AFn := ⟨25, [.tmp 2], .seq (.ops [⟨some 1, .box (.tmp 0), none⟩,
    ⟨some 2, .mov (.lit .nils), none⟩])
 (.seq (.ops [⟨some 3, .alloc [.nils], none⟩])
  (.seq (.ops [⟨some 6, .mkfn (.func 104) [] [.tmp 1, .tmp 3], none⟩,
      ⟨some 4, .mov (.tmp 6), none⟩])
   (.seq (.ops [⟨some 7, .mov (.tmp 4), none⟩,
       ⟨some 8, .call (.tmp 7) [.lit (.int .i64 2)], none⟩])
    (.seq (.seq (.ops [⟨some 5, .mov (.lit (.int .i64 3)), none⟩])
      (.block 0 (.loop (.seq (.seq (.ops [⟨some 9, .mov (.tmp 5), none⟩,
             ⟨some 10, .mov (.tmp 5), none⟩,
             ⟨some 11, .bin .mul .no (.tmp 9) (.tmp 10), none⟩,
             ⟨some 12, .load none (.tmp 1), none⟩,
             ⟨some 13, .bin .leq .no (.tmp 11) (.tmp 12), none⟩])
          (.cond (.tmp 13) .skip (.exit 0)))
         (.seq (.block 1 (.ops [⟨some 16, .mov (.tmp 4), none⟩,
              ⟨some 17, .mov (.tmp 5), none⟩,
              ⟨some 18, .call (.tmp 16) [.tmp 17], none⟩]))
          (.ops [⟨some 14, .mov (.tmp 5), none⟩,
             ⟨some 15, .bin .add .no (.tmp 14) (.lit (.int .i64 2)), none⟩,
             ⟨some 5, .mov (.tmp 15), none⟩]))))))
     (.seq (.seq (.ops [⟨some 19, .load none (.tmp 1), none⟩,
          ⟨some 20, .bin .gtr .no (.tmp 19) (.lit (.int .i64 1)), none⟩])
       (.cond (.tmp 20) (.ops [⟨some 21, .mov (.tmp 4), none⟩,
           ⟨some 22, .load none (.tmp 1), none⟩,
           ⟨some 23, .call (.tmp 21) [.tmp 22], none⟩]) .skip))
      (.seq (.ops [⟨some 24, .load none (.tmp 3), none⟩,
          ⟨some 2, .mov (.tmp 24), none⟩])
       .ret))))))⟩
theorem ok91 : FnOK Go.Proofs.Try.prog 91 af91 := ⟨Go.Proofs.Try.f91, Go.Proofs.Try.func91, by kernel_rfl, by kernel_rfl⟩
def af92 : AFn := ⟨9, [.tmp 2], .seq (.ops [⟨some 2, .mov (.lit (.str [])), none⟩])
 (.seq (.ops [⟨some 3, .mov (.tmp 0), none⟩,
     ⟨some 4, .bin .and .no (.tmp 3) (.lit (.int .u64 4294967295)), none⟩,
     ⟨some 5, .mov (.tmp 0), none⟩,
     ⟨some 6, .bin .shr .no (.tmp 5) (.lit (.int .u64 32)), none⟩,
     ⟨some 7, .bslice 2 1 [.int .u64 0, .int .u64 0] [(0, .tmp 4), (1, .tmp 6)], none⟩,
     ⟨some 8, .call (.lit (.fn (.func 105) [] [])) [.tmp 7], none⟩,
     ⟨some 2, .mov (.tmp 8), none⟩])
  .ret)⟩
theorem ok92 : FnOK Go.Proofs.Try.prog 92 af92 := ⟨Go.Proofs.Try.f92, Go.Proofs.Try.func92, by kernel_rfl, by kernel_rfl⟩
def af93 : AFn := ⟨6, [.tmp 2], .seq (.ops [⟨some 2, .mov (.lit (.str [])), none⟩])
 (.seq (.ops [⟨some 3, .mov (.tmp 0), none⟩,
     ⟨some 4, .bslice 1 1 [.int .u64 0] [(0, .tmp 3)], none⟩,
     ⟨some 5, .call (.lit (.fn (.func 106) [] [])) [.tmp 4], none⟩,
     ⟨some 2, .mov (.tmp 5), none⟩])
  .ret)⟩
theorem ok93 : FnOK Go.Proofs.Try.prog 93 af93 := ⟨Go.Proofs.Try.f93, Go.Proofs.Try.func93, by kernel_rfl, by kernel_rfl⟩
def af94 : AFn := ⟨9, [.cell 4 (some 3)], .seq (.ops [⟨some 2, .box (.tmp 0), none⟩,
    ⟨some 3, .box (.tmp 1), none⟩,
    ⟨some 4, .alloc [.bool false, .str [], .str []], none⟩])
 (.seq (.draw [(⟨some 5, .load (some 3) (.tmp 2), none⟩, 1),
     (⟨some 6, .load (some 3) (.tmp 3), none⟩, 0),
     (⟨some 7, .call (.lit (.fn (.func 107) [] [])) [.tmp 6], none⟩, 0),
     (⟨some 8, .call (.lit (.fn (.func 57) [] [])) [.tmp 5, .tmp 7], none⟩, 0),
     (⟨none, .store 3 (.tmp 4) (.tmp 8), none⟩, 0)])
  .ret)⟩
theorem ok94 : FnOK Go.Proofs.Try.prog 94 af94 := ⟨Go.Proofs.Try.f94, Go.Proofs.Try.func94, by kernel_rfl, by kernel_rfl⟩
def af95 : AFn := ⟨13, [.cell 2 (some 3)], .seq (.ops [⟨some 2, .alloc [.bool false, .str [], .str []], none⟩])
 (.seq (.seq (.ops [⟨some 3, .mov (.tmp 0), none⟩,
      ⟨some 4, .len 1 (.tmp 3), none⟩,
      ⟨some 5, .bin .eql .no (.tmp 4) (.lit (.int .i64 0)), none⟩])
   (.cond (.tmp 5) (.seq (.ops [⟨some 6, .call (.lit (.fn (.func 48) [] [])) [.lit (.int .i64 0)], none⟩,
        ⟨none, .store 3 (.tmp 2) (.tmp 6), none⟩])
     .ret) .skip))
  (.seq (.ops [⟨some 7, .mov (.tmp 0), none⟩,
      ⟨some 8, .mov (.tmp 0), none⟩,
      ⟨some 9, .len 1 (.tmp 8), none⟩,
      ⟨some 10, .bin .sub .no (.tmp 9) (.lit (.int .i64 1)), none⟩,
      ⟨some 11, .iaddr none 3 (.tmp 7) (.tmp 10), none⟩,
      ⟨some 12, .load (some 3) (.tmp 11), none⟩,
      ⟨none, .store 3 (.tmp 2) (.tmp 12), none⟩])
   .ret))⟩
theorem ok95 : FnOK Go.Proofs.Try.prog 95 af95 := ⟨Go.Proofs.Try.f95, Go.Proofs.Try.func95, by kernel_rfl, by kernel_rfl⟩
def af96 : AFn := ⟨12, [.cell 4 (some 2)], .seq (.ops [⟨some 4, .alloc [.bool false, .str []], none⟩])
 (.seq (.ops [⟨some 5, .mov (.tmp 0), none⟩,
     ⟨some 6, .mov (.tmp 5), none⟩,
     ⟨some 7, .mov (.tmp 1), some (6, true)⟩,
     ⟨some 8, .bin .neq .no (.tmp 7) (.lit (.str [])), some (6, true)⟩,
     ⟨some 9, .pick (.tmp 6) (.tmp 8) (.lit (.bool false)), none⟩,
     ⟨some 10, .mov (.tmp 1), none⟩,
     ⟨some 11, .build [.bool false, .str []] [(0, (1, .tmp 9)), (1, (1, .tmp 10))], none⟩,
     ⟨none, .store 2 (.tmp 4) (.tmp 11), none⟩])
  .ret)⟩
theorem ok96 : FnOK Go.Proofs.Try.prog 96 af96 := ⟨Go.Proofs.Try.f96, Go.Proofs.Try.func96, by kernel_rfl, by kernel_rfl⟩
def af97 : AFn := ⟨61, [.tmp 4], .seq (.ops [⟨some 4, .mov (.lit (.str [])), none⟩])
 (.seq (.ops [⟨some 11, .mov (.tmp 0), none⟩,
     ⟨some 12, .call (.lit (.fn (.func 108) [] [])) [.tmp 11], none⟩,
     ⟨some 13, .mov (.tmp 1), none⟩,
     ⟨some 14, .call (.lit (.fn (.func 108) [] [])) [.tmp 13], none⟩,
     ⟨some 5, .mov (.tmp 12), none⟩,
     ⟨some 6, .mov (.tmp 14), none⟩])
  (.seq (.ops [⟨some 7, .mov (.lit .nils), none⟩])
   (.seq (.ops [⟨some 8, .mov (.lit (.int .u64 0)), none⟩])
    (.seq (.seq (.ops [⟨some 9, .mov (.lit (.int .i64 0)), none⟩])
      (.block 0 (.loop (.seq (.seq (.ops [⟨some 15, .mov (.tmp 9), none⟩,
             ⟨some 16, .mov (.tmp 5), none⟩,
             ⟨some 17, .len 1 (.tmp 16), none⟩,
             ⟨some 18, .bin .lss .no (.tmp 15) (.tmp 17), none⟩,
             ⟨some 19, .mov (.tmp 18), none⟩,
             ⟨some 20, .mov (.tmp 9), some (19, false)⟩,
             ⟨some 21, .mov (.tmp 6), some (19, false)⟩,
             ⟨some 22, .len 1 (.tmp 21), some (19, false)⟩,
             ⟨some 23, .bin .lss .no (.tmp 20) (.tmp 22), some (19, false)⟩,
             ⟨some 24, .pick (.tmp 19) (.lit (.bool true)) (.tmp 23), none⟩,
             ⟨some 25, .mov (.tmp 24), none⟩,
             ⟨some 26, .mov (.tmp 8), some (25, false)⟩,
             ⟨some 27, .bin .gtr .no (.tmp 26) (.lit (.int .u64 0)), some (25, false)⟩,
             ⟨some 28, .pick (.tmp 25) (.lit (.bool true)) (.tmp 27), none⟩])
          (.cond (.tmp 28) .skip (.exit 0)))
         (.seq (.block 1 (.seq (.ops [⟨some 31, .mov (.tmp 8), none⟩,
               ⟨some 10, .mov (.tmp 31), none⟩])
            (.seq (.seq (.ops [⟨some 32, .mov (.tmp 9), none⟩,
                 ⟨some 33, .mov (.tmp 5), none⟩,
                 ⟨some 34, .len 1 (.tmp 33), none⟩,
                 ⟨some 35, .bin .lss .no (.tmp 32) (.tmp 34), none⟩])
              (.cond (.tmp 35) (.ops [⟨some 36, .mov (.tmp 10), none⟩,
                  ⟨some 37, .mov (.tmp 5), none⟩,
                  ⟨some 38, .mov (.tmp 9), none⟩,
                  ⟨some 39, .iaddr none 1 (.tmp 37) (.tmp 38), none⟩,
                  ⟨some 40, .load none (.tmp 39), none⟩,
                  ⟨some 41, .bin .add .no (.tmp 36) (.tmp 40), none⟩,
                  ⟨some 10, .mov (.tmp 41), none⟩]) .skip))
             (.seq (.seq (.ops [⟨some 42, .mov (.tmp 9), none⟩,
                  ⟨some 43, .mov (.tmp 6), none⟩,
                  ⟨some 44, .len 1 (.tmp 43), none⟩,
                  ⟨some 45, .bin .lss .no (.tmp 42) (.tmp 44), none⟩])
               (.cond (.tmp 45) (.ops [⟨some 46, .mov (.tmp 10), none⟩,
                   ⟨some 47, .mov (.tmp 6), none⟩,
                   ⟨some 48, .mov (.tmp 9), none⟩,
                   ⟨some 49, .iaddr none 1 (.tmp 47) (.tmp 48), none⟩,
                   ⟨some 50, .load none (.tmp 49), none⟩,
                   ⟨some 51, .bin .add .no (.tmp 46) (.tmp 50), none⟩,
                   ⟨some 10, .mov (.tmp 51), none⟩]) .skip))
              (.seq (.ops [⟨some 52, .mov (.tmp 7), none⟩,
                  ⟨some 53, .mov (.tmp 10), none⟩,
                  ⟨some 54, .bin .and .no (.tmp 53) (.lit (.int .u64 4294967295)), none⟩,
                  ⟨some 55, .bslice 1 1 [.int .u64 0] [(0, .tmp 54)], none⟩,
                  ⟨some 56, .append 1 8 [.int .u64 0] (.tmp 52) (.tmp 55), none⟩,
                  ⟨some 7, .mov (.tmp 56), none⟩])
               (.ops [⟨some 57, .mov (.tmp 10), none⟩,
                  ⟨some 58, .bin .shr .no (.tmp 57) (.lit (.int .u64 32)), none⟩,
                  ⟨some 8, .mov (.tmp 58), none⟩]))))))
          (.ops [⟨some 29, .mov (.tmp 9), none⟩,
             ⟨some 30, .bin .add .no (.tmp 29) (.lit (.int .i64 1)), none⟩,
             ⟨some 9, .mov (.tmp 30), none⟩]))))))
     (.seq (.ops [⟨some 59, .mov (.tmp 7), none⟩,
         ⟨some 60, .call (.lit (.fn (.func 105) [] [])) [.tmp 59], none⟩,
         ⟨some 4, .mov (.tmp 60), none⟩])
      .ret)))))⟩
theorem ok97 : FnOK Go.Proofs.Try.prog 97 af97 := ⟨Go.Proofs.Try.f97, Go.Proofs.Try.func97, by kernel_rfl, by kernel_rfl⟩
def af98 : AFn := ⟨27, [.tmp 4], .seq (.ops [⟨some 4, .mov (.lit (.int .i64 0)), none⟩])
 (.seq (.block 0 (.seq (.ops [⟨some 6, .mov (.tmp 0), none⟩,
       ⟨some 7, .len 0 (.tmp 6), none⟩,
       ⟨some 8, .mov (.tmp 1), none⟩,
       ⟨some 9, .len 0 (.tmp 8), none⟩,
       ⟨some 10, .bin .lss .no (.tmp 7) (.tmp 9), none⟩,
       ⟨some 11, .mov (.tmp 10), none⟩,
       ⟨some 12, .mov (.tmp 0), some (11, false)⟩,
       ⟨some 13, .len 0 (.tmp 12), some (11, false)⟩,
       ⟨some 14, .mov (.tmp 1), some (11, false)⟩,
       ⟨some 15, .len 0 (.tmp 14), some (11, false)⟩,
       ⟨some 16, .bin .eql .no (.tmp 13) (.tmp 15), some (11, false)⟩,
       ⟨some 17, .mov (.tmp 16), some (11, false)⟩,
       ⟨some 18, .mov (.tmp 0), some (17, true)⟩,
       ⟨some 19, .mov (.tmp 1), some (17, true)⟩,
       ⟨some 20, .bin .lss .no (.tmp 18) (.tmp 19), some (17, true)⟩,
       ⟨some 21, .pick (.tmp 17) (.tmp 20) (.lit (.bool false)), some (11, false)⟩,
       ⟨some 22, .pick (.tmp 11) (.lit (.bool true)) (.tmp 21), none⟩,
       ⟨some 5, .mov (.tmp 22), none⟩])
    (.cond (.tmp 5) (.seq (.ops [⟨some 4, .mov (.lit (.int .i64 (-1))), none⟩])
      .ret) (.seq (.ops [⟨some 24, .mov (.tmp 0), none⟩,
         ⟨some 25, .mov (.tmp 1), none⟩,
         ⟨some 26, .bin .eql .no (.tmp 24) (.tmp 25), none⟩,
         ⟨some 23, .mov (.tmp 26), none⟩])
      (.cond (.tmp 23) (.seq (.ops [⟨some 4, .mov (.lit (.int .i64 0)), none⟩])
        .ret) .skip)))))
  (.seq (.ops [⟨some 4, .mov (.lit (.int .i64 1)), none⟩])
   .ret))⟩
theorem ok98 : FnOK Go.Proofs.Try.prog 98 af98 := ⟨Go.Proofs.Try.f98, Go.Proofs.Try.func98, by kernel_rfl, by kernel_rfl⟩
def af99 : AFn := ⟨60, [.tmp 4], .seq (.ops [⟨some 4, .mov (.lit (.str [])), none⟩])
 (.seq (.seq (.ops [⟨some 10, .mov (.tmp 0), none⟩,
      ⟨some 11, .mov (.tmp 1), none⟩,
      ⟨some 12, .call (.lit (.fn (.func 98) [] [])) [.tmp 10, .tmp 11], none⟩,
      ⟨some 13, .bin .lss .no (.tmp 12) (.lit (.int .i64 0)), none⟩])
   (.cond (.tmp 13) (.seq (.ops [⟨some 4, .mov (.lit (.str [])), none⟩])
     .ret) .skip))
  (.seq (.ops [⟨some 14, .mov (.tmp 0), none⟩,
      ⟨some 15, .call (.lit (.fn (.func 108) [] [])) [.tmp 14], none⟩,
      ⟨some 16, .mov (.tmp 1), none⟩,
      ⟨some 17, .call (.lit (.fn (.func 108) [] [])) [.tmp 16], none⟩,
      ⟨some 5, .mov (.tmp 15), none⟩,
      ⟨some 6, .mov (.tmp 17), none⟩])
   (.seq (.ops [⟨some 7, .mov (.lit (.int .u64 0)), none⟩])
    (.seq (.seq (.ops [⟨some 8, .mov (.lit (.int .i64 0)), none⟩])
      (.block 0 (.loop (.seq (.seq (.ops [⟨some 18, .mov (.tmp 8), none⟩,
             ⟨some 19, .mov (.tmp 5), none⟩,
             ⟨some 20, .len 1 (.tmp 19), none⟩,
             ⟨some 21, .bin .lss .no (.tmp 18) (.tmp 20), none⟩])
          (.cond (.tmp 21) .skip (.exit 0)))
         (.seq (.block 1 (.seq (.ops [⟨some 24, .mov (.tmp 7), none⟩,
               ⟨some 9, .mov (.tmp 24), none⟩])
            (.seq (.seq (.ops [⟨some 25, .mov (.tmp 8), none⟩,
                 ⟨some 26, .mov (.tmp 6), none⟩,
                 ⟨some 27, .len 1 (.tmp 26), none⟩,
                 ⟨some 28, .bin .lss .no (.tmp 25) (.tmp 27), none⟩])
              (.cond (.tmp 28) (.ops [⟨some 29, .mov (.tmp 9), none⟩,
                  ⟨some 30, .mov (.tmp 6), none⟩,
                  ⟨some 31, .mov (.tmp 8), none⟩,
                  ⟨some 32, .iaddr none 1 (.tmp 30) (.tmp 31), none⟩,
                  ⟨some 33, .load none (.tmp 32), none⟩,
                  ⟨some 34, .bin .add .no (.tmp 29) (.tmp 33), none⟩,
                  ⟨some 9, .mov (.tmp 34), none⟩]) .skip))
             (.seq (.ops [⟨some 7, .mov (.lit (.int .u64 0)), none⟩])
              (.seq (.seq (.ops [⟨some 35, .mov (.tmp 5), none⟩,
                   ⟨some 36, .mov (.tmp 8), none⟩,
                   ⟨some 37, .iaddr none 1 (.tmp 35) (.tmp 36), none⟩,
                   ⟨some 38, .load none (.tmp 37), none⟩,
                   ⟨some 39, .mov (.tmp 9), none⟩,
                   ⟨some 40, .bin .lss .no (.tmp 38) (.tmp 39), none⟩])
                (.cond (.tmp 40) (.seq (.ops [⟨some 41, .mov (.tmp 5), none⟩,
                     ⟨some 42, .mov (.tmp 8), none⟩,
                     ⟨some 43, .mov (.tmp 5), none⟩,
                     ⟨some 44, .mov (.tmp 8), none⟩,
                     ⟨some 45, .iaddr none 1 (.tmp 43) (.tmp 44), none⟩,
                     ⟨some 46, .load none (.tmp 45), none⟩,
                     ⟨some 47, .bin .add .no (.tmp 46) (.lit (.int .u64 4294967296)), none⟩,
                     ⟨some 48, .iaddr none 1 (.tmp 41) (.tmp 42), none⟩,
                     ⟨none, .store 1 (.tmp 48) (.tmp 47), none⟩])
                  (.ops [⟨some 7, .mov (.lit (.int .u64 1)), none⟩])) .skip))
               (.ops [⟨some 49, .mov (.tmp 5), none⟩,
                  ⟨some 50, .mov (.tmp 8), none⟩,
                  ⟨some 51, .mov (.tmp 5), none⟩,
                  ⟨some 52, .mov (.tmp 8), none⟩,
                  ⟨some 53, .iaddr none 1 (.tmp 51) (.tmp 52), none⟩,
                  ⟨some 54, .load none (.tmp 53), none⟩,
                  ⟨some 55, .mov (.tmp 9), none⟩,
                  ⟨some 56, .bin .sub .no (.tmp 54) (.tmp 55), none⟩,
                  ⟨some 57, .iaddr none 1 (.tmp 49) (.tmp 50), none⟩,
                  ⟨none, .store 1 (.tmp 57) (.tmp 56), none⟩]))))))
          (.ops [⟨some 22, .mov (.tmp 8), none⟩,
             ⟨some 23, .bin .add .no (.tmp 22) (.lit (.int .i64 1)), none⟩,
             ⟨some 8, .mov (.tmp 23), none⟩]))))))
     (.seq (.ops [⟨some 58, .mov (.tmp 5), none⟩,
         ⟨some 59, .call (.lit (.fn (.func 105) [] [])) [.tmp 58], none⟩,
         ⟨some 4, .mov (.tmp 59), none⟩])
      .ret)))))⟩
theorem ok99 : FnOK Go.Proofs.Try.prog 99 af99 := ⟨Go.Proofs.Try.f99, Go.Proofs.Try.func99, by kernel_rfl, by kernel_rfl⟩
def af100 : AFn := ⟨70, [.tmp 4], .seq (.ops [⟨some 4, .mov (.lit (.str [])), none⟩])
 (.seq (.ops [⟨some 12, .mov (.tmp 0), none⟩,
     ⟨some 13, .call (.lit (.fn (.func 108) [] [])) [.tmp 12], none⟩,
     ⟨some 14, .mov (.tmp 1), none⟩,
     ⟨some 15, .call (.lit (.fn (.func 108) [] [])) [.tmp 14], none⟩,
     ⟨some 5, .mov (.tmp 13), none⟩,
     ⟨some 6, .mov (.tmp 15), none⟩])
  (.seq (.ops [⟨some 16, .mov (.tmp 5), none⟩,
      ⟨some 17, .len 1 (.tmp 16), none⟩,
      ⟨some 18, .mov (.tmp 6), none⟩,
      ⟨some 19, .len 1 (.tmp 18), none⟩,
      ⟨some 20, .bin .add .no (.tmp 17) (.tmp 19), none⟩,
      ⟨some 21, .mkslice 1 8 [.int .u64 0] (.tmp 20) (.tmp 20), none⟩,
      ⟨some 7, .mov (.tmp 21), none⟩])
   (.seq (.seq (.ops [⟨some 8, .mov (.lit (.int .i64 0)), none⟩])
     (.block 0 (.loop (.seq (.seq (.ops [⟨some 22, .mov (.tmp 8), none⟩,
            ⟨some 23, .mov (.tmp 5), none⟩,
            ⟨some 24, .len 1 (.tmp 23), none⟩,
            ⟨some 25, .bin .lss .no (.tmp 22) (.tmp 24), none⟩])
         (.cond (.tmp 25) .skip (.exit 0)))
        (.seq (.block 1 (.seq (.ops [⟨some 9, .mov (.lit (.int .u64 0)), none⟩])
           (.seq (.seq (.ops [⟨some 10, .mov (.lit (.int .i64 0)), none⟩])
             (.block 2 (.loop (.seq (.seq (.ops [⟨some 28, .mov (.tmp 10), none⟩,
                    ⟨some 29, .mov (.tmp 6), none⟩,
                    ⟨some 30, .len 1 (.tmp 29), none⟩,
                    ⟨some 31, .bin .lss .no (.tmp 28) (.tmp 30), none⟩])
                 (.cond (.tmp 31) .skip (.exit 2)))
                (.seq (.block 3 (.seq (.draw [(⟨some 34, .mov (.tmp 7), none⟩, 0),
                      (⟨some 35, .mov (.tmp 8), none⟩, 0),
                      (⟨some 36, .mov (.tmp 10), none⟩, 0),
                      (⟨some 37, .bin .add .no (.tmp 35) (.tmp 36), none⟩, 0),
                      (⟨some 38, .iaddr none 1 (.tmp 34) (.tmp 37), none⟩, 0),
                      (⟨some 39, .load none (.tmp 38), none⟩, 0),
                      (⟨some 40, .mov (.tmp 5), none⟩, 0),
                      (⟨some 41, .mov (.tmp 8), none⟩, 0),
                      (⟨some 42, .iaddr none 1 (.tmp 40) (.tmp 41), none⟩, 0),
                      (⟨some 43, .load none (.tmp 42), none⟩, 0),
                      (⟨some 44, .mov (.tmp 6), none⟩, 0),
                      (⟨some 45, .mov (.tmp 10), none⟩, 0),
                      (⟨some 46, .iaddr none 1 (.tmp 44) (.tmp 45), none⟩, 0),
                      (⟨some 47, .load none (.tmp 46), none⟩, 0),
                      (⟨some 48, .bin .mul .no (.tmp 43) (.tmp 47), none⟩, 0),
                      (⟨some 49, .bin .add .no (.tmp 39) (.tmp 48), none⟩, 0),
                      (⟨some 50, .mov (.tmp 9), none⟩, 0),
                      (⟨some 51, .bin .add .no (.tmp 49) (.tmp 50), none⟩, 0),
                      (⟨some 11, .mov (.tmp 51), none⟩, 0)])
                   (.seq (.ops [⟨some 52, .mov (.tmp 7), none⟩,
                       ⟨some 53, .mov (.tmp 8), none⟩,
                       ⟨some 54, .mov (.tmp 10), none⟩,
                       ⟨some 55, .bin .add .no (.tmp 53) (.tmp 54), none⟩,
                       ⟨some 56, .mov (.tmp 11), none⟩,
                       ⟨some 57, .bin .and .no (.tmp 56) (.lit (.int .u64 4294967295)), none⟩,
                       ⟨some 58, .iaddr none 1 (.tmp 52) (.tmp 55), none⟩,
                       ⟨none, .store 1 (.tmp 58) (.tmp 57), none⟩])
                    (.ops [⟨some 59, .mov (.tmp 11), none⟩,
                       ⟨some 60, .bin .shr .no (.tmp 59) (.lit (.int .u64 32)), none⟩,
                       ⟨some 9, .mov (.tmp 60), none⟩]))))
                 (.ops [⟨some 32, .mov (.tmp 10), none⟩,
                    ⟨some 33, .bin .add .no (.tmp 32) (.lit (.int .i64 1)), none⟩,
                    ⟨some 10, .mov (.tmp 33), none⟩]))))))
            (.ops [⟨some 61, .mov (.tmp 7), none⟩,
               ⟨some 62, .mov (.tmp 8), none⟩,
               ⟨some 63, .mov (.tmp 6), none⟩,
               ⟨some 64, .len 1 (.tmp 63), none⟩,
               ⟨some 65, .bin .add .no (.tmp 62) (.tmp 64), none⟩,
               ⟨some 66, .mov (.tmp 9), none⟩,
               ⟨some 67, .iaddr none 1 (.tmp 61) (.tmp 65), none⟩,
               ⟨none, .store 1 (.tmp 67) (.tmp 66), none⟩]))))
         (.ops [⟨some 26, .mov (.tmp 8), none⟩,
            ⟨some 27, .bin .add .no (.tmp 26) (.lit (.int .i64 1)), none⟩,
            ⟨some 8, .mov (.tmp 27), none⟩]))))))
    (.seq (.ops [⟨some 68, .mov (.tmp 7), none⟩,
        ⟨some 69, .call (.lit (.fn (.func 105) [] [])) [.tmp 68], none⟩,
        ⟨some 4, .mov (.tmp 69), none⟩])
     .ret))))⟩
theorem ok100 : FnOK Go.Proofs.Try.prog 100 af100 := ⟨Go.Proofs.Try.f100, Go.Proofs.Try.func100, by kernel_rfl, by kernel_rfl⟩
def af101 : AFn := ⟨18, [.tmp 4], .seq (.ops [⟨some 4, .mov (.lit (.str [])), none⟩])
 (.seq (.block 0 (.loop (.seq (.seq (.ops [⟨some 7, .mov (.tmp 1), none⟩,
         ⟨some 8, .bin .neq .no (.tmp 7) (.lit (.str [])), none⟩])
      (.cond (.tmp 8) .skip (.exit 0)))
     (.block 1 (.seq (.ops [⟨some 10, .mov (.tmp 0), none⟩,
          ⟨some 11, .mov (.tmp 1), none⟩,
          ⟨some 12, .call (.lit (.fn (.func 102) [] [])) [.tmp 10, .tmp 11], none⟩,
          ⟨some 9, .mov (.tmp 12), none⟩,
          ⟨some 13, .extr 0 (.tmp 9), none⟩,
          ⟨some 14, .extr 1 (.tmp 9), none⟩,
          ⟨some 5, .mov (.tmp 13), none⟩,
          ⟨some 6, .mov (.tmp 14), none⟩])
       (.ops [⟨some 15, .mov (.tmp 1), none⟩,
          ⟨some 16, .mov (.tmp 6), none⟩,
          ⟨some 0, .mov (.tmp 15), none⟩,
          ⟨some 1, .mov (.tmp 16), none⟩]))))))
  (.seq (.ops [⟨some 17, .mov (.tmp 0), none⟩,
      ⟨some 4, .mov (.tmp 17), none⟩])
   .ret))⟩
theorem ok101 : FnOK Go.Proofs.Try.prog 101 af101 := ⟨Go.Proofs.Try.f101, Go.Proofs.Try.func101, by kernel_rfl, by kernel_rfl⟩
end Go.AM
