/- The functions of the cut in the machine's form, printed by a program of this claim's own; each is the translation of the loaded function. No condition. -/
import Derived.Test.YtemmnocgkgoegaaRows
import Derived.Test.YtemmnocgkgoegaaAm23
set_option maxRecDepth 100000
namespace Go.AM
open Go
def af81 : AFn := ⟨148, [], .seq (.ops [⟨some 10, .mov (.lit (.bool true)), none⟩])
 (.seq (.ops [⟨some 11, .mov (.lit (.bool true)), none⟩])
  (.block 0 (.loop (.block 1 (.seq (.ops [⟨some 21, .mov (.tmp 2), none⟩,
         ⟨some 22, .mov (.tmp 1), none⟩,
         ⟨some 23, .bin .sub .no (.tmp 21) (.tmp 22), none⟩,
         ⟨some 12, .mov (.tmp 23), none⟩])
      (.seq (.seq (.ops [⟨some 24, .mov (.tmp 12), none⟩,
           ⟨some 25, .bin .leq .no (.tmp 24) (.lit (.int .i64 12)), none⟩])
        (.cond (.tmp 25) (.seq (.ops [⟨some 26, .mov (.tmp 0), none⟩,
             ⟨some 27, .mov (.tmp 1), none⟩,
             ⟨some 28, .mov (.tmp 2), none⟩,
             ⟨some 29, .mov (.tmp 4), none⟩,
             ⟨some 30, .call (.lit (.fn (.func 94) [] [])) [.tmp 26, .tmp 27, .tmp 28, .tmp 29], none⟩])
          .ret) .skip))
       (.seq (.seq (.ops [⟨some 31, .mov (.tmp 3), none⟩,
            ⟨some 32, .bin .eql .no (.tmp 31) (.lit (.int .i64 0)), none⟩])
         (.cond (.tmp 32) (.seq (.ops [⟨some 33, .mov (.tmp 0), none⟩,
              ⟨some 34, .mov (.tmp 1), none⟩,
              ⟨some 35, .mov (.tmp 2), none⟩,
              ⟨some 36, .mov (.tmp 4), none⟩,
              ⟨some 37, .call (.lit (.fn (.func 95) [] [])) [.tmp 33, .tmp 34, .tmp 35, .tmp 36], none⟩])
           .ret) .skip))
        (.seq (.seq (.ops [⟨some 38, .mov (.tmp 10), none⟩,
             ⟨some 39, .un .not (.tmp 38), none⟩])
          (.cond (.tmp 39) (.seq (.ops [⟨some 40, .mov (.tmp 0), none⟩,
               ⟨some 41, .mov (.tmp 1), none⟩,
               ⟨some 42, .mov (.tmp 2), none⟩,
               ⟨some 43, .mov (.tmp 4), none⟩,
               ⟨some 44, .call (.lit (.fn (.func 96) [] [])) [.tmp 40, .tmp 41, .tmp 42, .tmp 43], none⟩])
            (.ops [⟨some 45, .mov (.tmp 3), none⟩,
               ⟨some 46, .bin .sub .no (.tmp 45) (.lit (.int .i64 1)), none⟩,
               ⟨some 3, .mov (.tmp 46), none⟩])) .skip))
         (.seq (.ops [⟨some 48, .mov (.tmp 0), none⟩,
             ⟨some 49, .mov (.tmp 1), none⟩,
             ⟨some 50, .mov (.tmp 2), none⟩,
             ⟨some 51, .mov (.tmp 4), none⟩,
             ⟨some 52, .call (.lit (.fn (.func 97) [] [])) [.tmp 48, .tmp 49, .tmp 50, .tmp 51], none⟩,
             ⟨some 47, .mov (.tmp 52), none⟩,
             ⟨some 53, .extr 0 (.tmp 47), none⟩,
             ⟨some 54, .extr 1 (.tmp 47), none⟩,
             ⟨some 13, .mov (.tmp 53), none⟩,
             ⟨some 14, .mov (.tmp 54), none⟩])
          (.seq (.seq (.ops [⟨some 55, .mov (.tmp 14), none⟩,
               ⟨some 56, .bin .eql .no (.tmp 55) (.lit (.int .i64 2)), none⟩])
            (.cond (.tmp 56) (.seq (.ops [⟨some 57, .mov (.tmp 0), none⟩,
                 ⟨some 58, .mov (.tmp 1), none⟩,
                 ⟨some 59, .mov (.tmp 2), none⟩,
                 ⟨some 60, .mov (.tmp 4), none⟩,
                 ⟨some 61, .call (.lit (.fn (.func 98) [] [])) [.tmp 57, .tmp 58, .tmp 59, .tmp 60], none⟩])
              (.seq (.ops [⟨some 62, .mov (.tmp 2), none⟩,
                  ⟨some 63, .bin .sub .no (.tmp 62) (.lit (.int .i64 1)), none⟩,
                  ⟨some 64, .mov (.tmp 13), none⟩,
                  ⟨some 65, .mov (.tmp 1), none⟩,
                  ⟨some 66, .bin .sub .no (.tmp 64) (.tmp 65), none⟩,
                  ⟨some 67, .bin .sub .no (.tmp 63) (.tmp 66), none⟩,
                  ⟨some 13, .mov (.tmp 67), none⟩])
               (.ops [⟨some 14, .mov (.lit (.int .i64 1)), none⟩]))) .skip))
           (.seq (.seq (.ops [⟨some 68, .mov (.tmp 10), none⟩,
                ⟨some 69, .mov (.tmp 68), none⟩,
                ⟨some 70, .mov (.tmp 11), some (69, true)⟩,
                ⟨some 71, .pick (.tmp 69) (.tmp 70) (.lit (.bool false)), none⟩,
                ⟨some 72, .mov (.tmp 71), none⟩,
                ⟨some 73, .mov (.tmp 14), some (72, true)⟩,
                ⟨some 74, .bin .eql .no (.tmp 73) (.lit (.int .i64 1)), some (72, true)⟩,
                ⟨some 75, .pick (.tmp 72) (.tmp 74) (.lit (.bool false)), none⟩])
             (.cond (.tmp 75) (.seq (.ops [⟨some 76, .mov (.tmp 0), none⟩,
                  ⟨some 77, .mov (.tmp 1), none⟩,
                  ⟨some 78, .mov (.tmp 2), none⟩,
                  ⟨some 79, .mov (.tmp 4), none⟩,
                  ⟨some 80, .call (.lit (.fn (.func 99) [] [])) [.tmp 76, .tmp 77, .tmp 78, .tmp 79], none⟩])
               (.cond (.tmp 80) .ret .skip)) .skip))
            (.seq (.seq (.draw [(⟨some 81, .mov (.tmp 1), none⟩, 0),
                 (⟨some 82, .bin .gtr .no (.tmp 81) (.lit (.int .i64 0)), none⟩, 0),
                 (⟨some 83, .mov (.tmp 82), none⟩, 0),
                 (⟨some 84, .mov (.tmp 4), some (83, true)⟩, 0),
                 (⟨some 85, .mov (.tmp 0), some (83, true)⟩, 0),
                 (⟨some 86, .mov (.tmp 1), some (83, true)⟩, 0),
                 (⟨some 87, .bin .sub .no (.tmp 86) (.lit (.int .i64 1)), some (83, true)⟩, 0),
                 (⟨some 88, .iaddr none 3 (.tmp 85) (.tmp 87), some (83, true)⟩, 0),
                 (⟨some 89, .load (some 3) (.tmp 88), some (83, true)⟩, 0),
                 (⟨some 90, .mov (.tmp 0), some (83, true)⟩, 0),
                 (⟨some 91, .mov (.tmp 13), some (83, true)⟩, 0),
                 (⟨some 92, .iaddr none 3 (.tmp 90) (.tmp 91), some (83, true)⟩, 0),
                 (⟨some 93, .load (some 3) (.tmp 92), some (83, true)⟩, 0),
                 (⟨some 94, .call (.tmp 84) [.tmp 89, .tmp 93], some (83, true)⟩, 0),
                 (⟨some 95, .bin .lss .no (.tmp 94) (.lit (.int .i64 0)), some (83, true)⟩, 0),
                 (⟨some 96, .un .not (.tmp 95), some (83, true)⟩, 0),
                 (⟨some 97, .pick (.tmp 83) (.tmp 96) (.lit (.bool false)), none⟩, 0)])
              (.cond (.tmp 97) (.seq (.ops [⟨some 98, .mov (.tmp 0), none⟩,
                   ⟨some 99, .mov (.tmp 1), none⟩,
                   ⟨some 100, .mov (.tmp 2), none⟩,
                   ⟨some 101, .mov (.tmp 13), none⟩,
                   ⟨some 102, .mov (.tmp 4), none⟩,
                   ⟨some 103, .call (.lit (.fn (.func 100) [] [])) [.tmp 98, .tmp 99, .tmp 100, .tmp 101, .tmp 102], none⟩,
                   ⟨some 15, .mov (.tmp 103), none⟩])
                (.seq (.ops [⟨some 104, .mov (.tmp 15), none⟩,
                    ⟨some 1, .mov (.tmp 104), none⟩])
                 (.exit 1))) .skip))
             (.seq (.ops [⟨some 106, .mov (.tmp 0), none⟩,
                 ⟨some 107, .mov (.tmp 1), none⟩,
                 ⟨some 108, .mov (.tmp 2), none⟩,
                 ⟨some 109, .mov (.tmp 13), none⟩,
                 ⟨some 110, .mov (.tmp 4), none⟩,
                 ⟨some 111, .call (.lit (.fn (.func 101) [] [])) [.tmp 106, .tmp 107, .tmp 108, .tmp 109, .tmp 110], none⟩,
                 ⟨some 105, .mov (.tmp 111), none⟩,
                 ⟨some 112, .extr 0 (.tmp 105), none⟩,
                 ⟨some 113, .extr 1 (.tmp 105), none⟩,
                 ⟨some 16, .mov (.tmp 112), none⟩,
                 ⟨some 17, .mov (.tmp 113), none⟩])
              (.seq (.ops [⟨some 114, .mov (.tmp 17), none⟩,
                  ⟨some 11, .mov (.tmp 114), none⟩])
               (.seq (.ops [⟨some 115, .mov (.tmp 16), none⟩,
                   ⟨some 116, .mov (.tmp 1), none⟩,
                   ⟨some 117, .bin .sub .no (.tmp 115) (.tmp 116), none⟩,
                   ⟨some 118, .mov (.tmp 2), none⟩,
                   ⟨some 119, .mov (.tmp 16), none⟩,
                   ⟨some 120, .bin .sub .no (.tmp 118) (.tmp 119), none⟩,
                   ⟨some 18, .mov (.tmp 117), none⟩,
                   ⟨some 19, .mov (.tmp 120), none⟩])
                (.seq (.ops [⟨some 121, .mov (.tmp 12), none⟩,
                    ⟨some 122, .bin .quo .no (.tmp 121) (.lit (.int .i64 8)), none⟩,
                    ⟨some 20, .mov (.tmp 122), none⟩])
                 (.seq (.ops [⟨some 123, .mov (.tmp 18), none⟩,
                     ⟨some 124, .mov (.tmp 19), none⟩,
                     ⟨some 125, .bin .lss .no (.tmp 123) (.tmp 124), none⟩])
                  (.cond (.tmp 125) (.seq (.ops [⟨some 126, .mov (.tmp 18), none⟩,
                       ⟨some 127, .mov (.tmp 20), none⟩,
                       ⟨some 128, .bin .geq .no (.tmp 126) (.tmp 127), none⟩,
                       ⟨some 10, .mov (.tmp 128), none⟩])
                    (.seq (.ops [⟨some 129, .mov (.tmp 0), none⟩,
                        ⟨some 130, .mov (.tmp 1), none⟩,
                        ⟨some 131, .mov (.tmp 16), none⟩,
                        ⟨some 132, .mov (.tmp 3), none⟩,
                        ⟨some 133, .mov (.tmp 4), none⟩,
                        ⟨some 134, .call (.lit (.fn (.func 81) [] [])) [.tmp 129, .tmp 130, .tmp 131, .tmp 132, .tmp 133], none⟩])
                     (.ops [⟨some 135, .mov (.tmp 16), none⟩,
                        ⟨some 136, .bin .add .no (.tmp 135) (.lit (.int .i64 1)), none⟩,
                        ⟨some 1, .mov (.tmp 136), none⟩]))) (.seq (.ops [⟨some 137, .mov (.tmp 19), none⟩,
                       ⟨some 138, .mov (.tmp 20), none⟩,
                       ⟨some 139, .bin .geq .no (.tmp 137) (.tmp 138), none⟩,
                       ⟨some 10, .mov (.tmp 139), none⟩])
                    (.seq (.ops [⟨some 140, .mov (.tmp 0), none⟩,
                        ⟨some 141, .mov (.tmp 16), none⟩,
                        ⟨some 142, .bin .add .no (.tmp 141) (.lit (.int .i64 1)), none⟩,
                        ⟨some 143, .mov (.tmp 2), none⟩,
                        ⟨some 144, .mov (.tmp 3), none⟩,
                        ⟨some 145, .mov (.tmp 4), none⟩,
                        ⟨some 146, .call (.lit (.fn (.func 81) [] [])) [.tmp 140, .tmp 142, .tmp 143, .tmp 144, .tmp 145], none⟩])
                     (.ops [⟨some 147, .mov (.tmp 16), none⟩,
                        ⟨some 2, .mov (.tmp 147), none⟩])))))))))))))))))))))⟩
theorem ok81 : FnOK Go.Proofs.Try.prog 81 af81 := ⟨Go.Proofs.Try.f81, Go.Proofs.Try.func81, by kernel_rfl, by kernel_rfl⟩
def af82 : AFn := ⟨8, [.tmp 2], .seq (.ops [⟨some 2, .mov (.lit (.int .i64 0)), none⟩])
 (.seq (.cond (.lit (.bool false)) (.seq (.ops [⟨some 3, .mov (.tmp 0), none⟩,
       ⟨some 4, .toInt .u32 (.tmp 3), none⟩,
       ⟨some 5, .call (.lit (.fn (.func 102) [] [])) [.tmp 4], none⟩,
       ⟨some 2, .mov (.tmp 5), none⟩])
    .ret) .skip)
  (.seq (.ops [⟨some 6, .mov (.tmp 0), none⟩,
      ⟨some 7, .call (.lit (.fn (.func 103) [] [])) [.tmp 6], none⟩,
      ⟨some 2, .mov (.tmp 7), none⟩])
   .ret))⟩
theorem ok82 : FnOK Go.Proofs.Try.prog 82 af82 := ⟨Go.Proofs.Try.f82, Go.Proofs.Try.func82, by kernel_rfl, by kernel_rfl⟩
def af83 : AFn := ⟨9, [.tmp 2, .tmp 3], .seq (.ops [⟨some 2, .mov (.lit (.bool false)), none⟩,
    ⟨some 3, .mov (.lit (.int .i64 0)), none⟩])
 (.seq (.seq (.ops [⟨some 4, .mov (.tmp 0), none⟩,
      ⟨some 5, .bslice 1 1 [.int .i64 0] [(0, .tmp 4)], none⟩,
      ⟨some 6, .call (.lit (.fn (.func 104) [] [])) [.tmp 5], none⟩])
   (.cond (.tmp 6) (.seq (.ops [⟨some 2, .mov (.lit (.bool false)), none⟩,
        ⟨some 3, .mov (.lit (.int .i64 3)), none⟩])
     .ret) .skip))
  (.seq (.ops [⟨some 7, .mov (.tmp 0), none⟩,
      ⟨some 8, .call (.lit (.fn (.func 105) [] [])) [.tmp 7], none⟩,
      ⟨some 2, .mov (.tmp 8), none⟩,
      ⟨some 3, .mov (.lit (.int .i64 0)), none⟩])
   .ret))⟩
theorem ok83 : FnOK Go.Proofs.Try.prog 83 af83 := ⟨Go.Proofs.Try.f83, Go.Proofs.Try.func83, by kernel_rfl, by kernel_rfl⟩
def af84 : AFn := ⟨53, [.tmp 4, .tmp 5], .seq (.ops [⟨some 4, .mov (.lit (.int .i64 0)), none⟩,
    ⟨some 5, .mov (.lit (.int .i64 0)), none⟩])
 (.seq (.seq (.ops [⟨some 7, .mov (.tmp 1), none⟩,
      ⟨some 8, .bslice 1 1 [.int .i64 0] [(0, .tmp 7)], none⟩,
      ⟨some 9, .call (.lit (.fn (.func 104) [] [])) [.tmp 8], none⟩,
      ⟨some 10, .mov (.tmp 9), none⟩,
      ⟨some 11, .mov (.tmp 1), some (10, false)⟩,
      ⟨some 12, .bin .rem .no (.tmp 11) (.lit (.int .i64 2)), some (10, false)⟩,
      ⟨some 13, .bin .eql .no (.tmp 12) (.lit (.int .i64 0)), some (10, false)⟩,
      ⟨some 14, .pick (.tmp 10) (.lit (.bool true)) (.tmp 13), none⟩])
   (.cond (.tmp 14) (.seq (.ops [⟨some 4, .mov (.lit (.int .i64 0)), none⟩,
        ⟨some 5, .mov (.lit (.int .i64 3)), none⟩])
     .ret) .skip))
  (.seq (.ops [⟨some 6, .mov (.lit (.int .i64 1)), none⟩])
   (.seq (.seq (.ops [⟨some 15, .mov (.tmp 0), none⟩,
        ⟨some 16, .mov (.tmp 1), none⟩,
        ⟨some 17, .call (.lit (.fn (.func 106) [] [])) [.tmp 15, .tmp 16], none⟩,
        ⟨some 0, .mov (.tmp 17), none⟩])
     (.block 0 (.loop (.seq (.seq (.ops [⟨some 18, .mov (.tmp 0), none⟩,
            ⟨some 19, .bin .gtr .no (.tmp 18) (.lit (.int .i64 0)), none⟩])
         (.cond (.tmp 19) .skip (.exit 0)))
        (.seq (.block 1 (.seq (.block 2 (.loop (.seq (.seq (.ops [⟨some 23, .mov (.tmp 0), none⟩,
                  ⟨some 24, .bin .rem .no (.tmp 23) (.lit (.int .i64 2)), none⟩,
                  ⟨some 25, .bin .eql .no (.tmp 24) (.lit (.int .i64 0)), none⟩])
               (.cond (.tmp 25) .skip (.exit 2)))
              (.block 3 (.seq (.ops [⟨some 26, .mov (.tmp 0), none⟩,
                   ⟨some 27, .bin .quo .no (.tmp 26) (.lit (.int .i64 2)), none⟩,
                   ⟨some 0, .mov (.tmp 27), none⟩])
                (.seq (.ops [⟨some 28, .mov (.tmp 1), none⟩,
                    ⟨some 29, .bin .rem .no (.tmp 28) (.lit (.int .i64 8)), none⟩,
                    ⟨some 30, .bin .eql .no (.tmp 29) (.lit (.int .i64 3)), none⟩,
                    ⟨some 31, .mov (.tmp 30), none⟩,
                    ⟨some 32, .mov (.tmp 1), some (31, false)⟩,
                    ⟨some 33, .bin .rem .no (.tmp 32) (.lit (.int .i64 8)), some (31, false)⟩,
                    ⟨some 34, .bin .eql .no (.tmp 33) (.lit (.int .i64 5)), some (31, false)⟩,
                    ⟨some 35, .pick (.tmp 31) (.lit (.bool true)) (.tmp 34), none⟩])
                 (.cond (.tmp 35) (.ops [⟨some 36, .mov (.tmp 6), none⟩,
                     ⟨some 37, .un .neg (.tmp 36), none⟩,
                     ⟨some 6, .mov (.tmp 37), none⟩]) .skip)))))))
           (.seq (.seq (.ops [⟨some 38, .mov (.tmp 0), none⟩,
                ⟨some 39, .bin .rem .no (.tmp 38) (.lit (.int .i64 4)), none⟩,
                ⟨some 40, .bin .eql .no (.tmp 39) (.lit (.int .i64 3)), none⟩,
                ⟨some 41, .mov (.tmp 40), none⟩,
                ⟨some 42, .mov (.tmp 1), some (41, true)⟩,
                ⟨some 43, .bin .rem .no (.tmp 42) (.lit (.int .i64 4)), some (41, true)⟩,
                ⟨some 44, .bin .eql .no (.tmp 43) (.lit (.int .i64 3)), some (41, true)⟩,
                ⟨some 45, .pick (.tmp 41) (.tmp 44) (.lit (.bool false)), none⟩])
             (.cond (.tmp 45) (.ops [⟨some 46, .mov (.tmp 6), none⟩,
                 ⟨some 47, .un .neg (.tmp 46), none⟩,
                 ⟨some 6, .mov (.tmp 47), none⟩]) .skip))
            (.ops [⟨some 48, .mov (.tmp 1), none⟩,
               ⟨some 49, .mov (.tmp 0), none⟩,
               ⟨some 0, .mov (.tmp 48), none⟩,
               ⟨some 1, .mov (.tmp 49), none⟩]))))
         (.ops [⟨some 20, .mov (.tmp 0), none⟩,
            ⟨some 21, .mov (.tmp 1), none⟩,
            ⟨some 22, .bin .rem .no (.tmp 20) (.tmp 21), none⟩,
            ⟨some 0, .mov (.tmp 22), none⟩]))))))
    (.seq (.seq (.ops [⟨some 50, .mov (.tmp 1), none⟩,
         ⟨some 51, .bin .gtr .no (.tmp 50) (.lit (.int .i64 1)), none⟩])
      (.cond (.tmp 51) (.seq (.ops [⟨some 4, .mov (.lit (.int .i64 0)), none⟩,
           ⟨some 5, .mov (.lit (.int .i64 0)), none⟩])
        .ret) .skip))
     (.seq (.ops [⟨some 52, .mov (.tmp 6), none⟩,
         ⟨some 4, .mov (.tmp 52), none⟩,
         ⟨some 5, .mov (.lit (.int .i64 0)), none⟩])
      .ret)))))⟩
theorem ok84 : FnOK Go.Proofs.Try.prog 84 af84 := ⟨Go.Proofs.Try.f84, Go.Proofs.Try.func84, by kernel_rfl, by kernel_rfl⟩
def af85 : AFn := ⟨17, [.tmp 4], .seq (.ops [⟨some 4, .mov (.lit (.int .i64 0)), none⟩])
 (.seq (.ops [⟨some 6, .mov (.tmp 0), none⟩,
     ⟨some 7, .mov (.tmp 1), none⟩,
     ⟨some 8, .bin .sub .no (.tmp 7) (.lit (.int .i64 1)), none⟩,
     ⟨some 9, .bin .quo .no (.tmp 8) (.lit (.int .i64 2)), none⟩,
     ⟨some 10, .mov (.tmp 1), none⟩,
     ⟨some 11, .call (.lit (.fn (.func 107) [] [])) [.tmp 6, .tmp 9, .tmp 10], none⟩,
     ⟨some 5, .mov (.tmp 11), none⟩])
  (.seq (.seq (.ops [⟨some 12, .mov (.tmp 5), none⟩,
       ⟨some 13, .mov (.tmp 1), none⟩,
       ⟨some 14, .bin .sub .no (.tmp 13) (.lit (.int .i64 1)), none⟩,
       ⟨some 15, .bin .eql .no (.tmp 12) (.tmp 14), none⟩])
    (.cond (.tmp 15) (.seq (.ops [⟨some 4, .mov (.lit (.int .i64 (-1))), none⟩])
      .ret) .skip))
   (.seq (.ops [⟨some 16, .mov (.tmp 5), none⟩,
       ⟨some 4, .mov (.tmp 16), none⟩])
    .ret)))⟩
theorem ok85 : FnOK Go.Proofs.Try.prog 85 af85 := ⟨Go.Proofs.Try.f85, Go.Proofs.Try.func85, by kernel_rfl, by kernel_rfl⟩
def af86 : AFn := ⟨60, [.tmp 4], .seq (.ops [⟨some 4, .mov (.lit (.str [])), none⟩])
 (.seq (.ops [⟨some 11, .mov (.tmp 0), none⟩,
     ⟨some 12, .call (.lit (.fn (.func 91) [] [])) [.tmp 11], none⟩,
     ⟨some 13, .mov (.tmp 1), none⟩,
     ⟨some 14, .call (.lit (.fn (.func 91) [] [])) [.tmp 13], none⟩,
     ⟨some 5, .mov (.tmp 12), none⟩,
     ⟨some 6, .mov (.tmp 14), none⟩])
  (.seq (.seq (.ops [⟨some 15, .mov (.tmp 5), none⟩,
       ⟨some 16, .len 1 (.tmp 15), none⟩,
       ⟨some 17, .mov (.tmp 6), none⟩,
       ⟨some 18, .len 1 (.tmp 17), none⟩,
       ⟨some 19, .bin .lss .no (.tmp 16) (.tmp 18), none⟩])
    (.cond (.tmp 19) (.ops [⟨some 20, .mov (.tmp 6), none⟩,
        ⟨some 21, .mov (.tmp 5), none⟩,
        ⟨some 5, .mov (.tmp 20), none⟩,
        ⟨some 6, .mov (.tmp 21), none⟩]) .skip))
   (.seq (.ops [⟨some 22, .mov (.tmp 5), none⟩,
       ⟨some 23, .len 1 (.tmp 22), none⟩,
       ⟨some 24, .bin .add .no (.tmp 23) (.lit (.int .i64 1)), none⟩,
       ⟨some 25, .mkslice 1 8 [.int .u64 0] (.tmp 24) (.tmp 24), none⟩,
       ⟨some 7, .mov (.tmp 25), none⟩])
    (.seq (.ops [⟨some 8, .mov (.lit (.int .u64 0)), none⟩])
     (.seq (.seq (.ops [⟨some 26, .mov (.tmp 5), none⟩,
          ⟨some 27, .len 1 (.tmp 26), none⟩,
          ⟨some 28, .mov (.lit (.int .i64 0)), none⟩])
       (.block 0 (.loop (.seq (.ops [⟨some 29, .bin .lss .no (.tmp 28) (.tmp 27), none⟩])
          (.seq (.cond (.tmp 29) .skip (.exit 0))
           (.seq (.block 1 (.seq (.ops [⟨some 30, .mov (.tmp 28), none⟩,
                 ⟨some 9, .mov (.tmp 30), none⟩])
              (.seq (.ops [⟨some 10, .mov (.lit (.int .u64 0)), none⟩])
               (.seq (.seq (.ops [⟨some 31, .mov (.tmp 9), none⟩,
                    ⟨some 32, .mov (.tmp 6), none⟩,
                    ⟨some 33, .len 1 (.tmp 32), none⟩,
                    ⟨some 34, .bin .lss .no (.tmp 31) (.tmp 33), none⟩])
                 (.cond (.tmp 34) (.ops [⟨some 35, .mov (.tmp 6), none⟩,
                     ⟨some 36, .mov (.tmp 9), none⟩,
                     ⟨some 37, .iaddr none 1 (.tmp 35) (.tmp 36), none⟩,
                     ⟨some 38, .load none (.tmp 37), none⟩,
                     ⟨some 10, .mov (.tmp 38), none⟩]) .skip))
                (.ops [⟨some 40, .mov (.tmp 7), none⟩,
                   ⟨some 41, .mov (.tmp 9), none⟩,
                   ⟨some 42, .mov (.tmp 5), none⟩,
                   ⟨some 43, .mov (.tmp 9), none⟩,
                   ⟨some 44, .iaddr none 1 (.tmp 42) (.tmp 43), none⟩,
                   ⟨some 45, .load none (.tmp 44), none⟩,
                   ⟨some 46, .mov (.tmp 10), none⟩,
                   ⟨some 47, .mov (.tmp 8), none⟩,
                   ⟨some 48, .call (.lit (.fn (.func 108) [] [])) [.tmp 45, .tmp 46, .tmp 47], none⟩,
                   ⟨some 39, .mov (.tmp 48), none⟩,
                   ⟨some 49, .extr 0 (.tmp 39), none⟩,
                   ⟨some 50, .extr 1 (.tmp 39), none⟩,
                   ⟨some 51, .iaddr none 1 (.tmp 40) (.tmp 41), none⟩,
                   ⟨none, .store 1 (.tmp 51) (.tmp 49), none⟩,
                   ⟨some 8, .mov (.tmp 50), none⟩])))))
            (.ops [⟨some 52, .bin .add .no (.tmp 28) (.lit (.int .i64 1)), none⟩,
               ⟨some 28, .mov (.tmp 52), none⟩])))))))
      (.seq (.ops [⟨some 53, .mov (.tmp 7), none⟩,
          ⟨some 54, .mov (.tmp 5), none⟩,
          ⟨some 55, .len 1 (.tmp 54), none⟩,
          ⟨some 56, .mov (.tmp 8), none⟩,
          ⟨some 57, .iaddr none 1 (.tmp 53) (.tmp 55), none⟩,
          ⟨none, .store 1 (.tmp 57) (.tmp 56), none⟩])
       (.seq (.ops [⟨some 58, .mov (.tmp 7), none⟩,
           ⟨some 59, .call (.lit (.fn (.func 89) [] [])) [.tmp 58], none⟩,
           ⟨some 4, .mov (.tmp 59), none⟩])
        .ret)))))))⟩
theorem ok86 : FnOK Go.Proofs.Try.prog 86 af86 := ⟨Go.Proofs.Try.f86, Go.Proofs.Try.func86, by kernel_rfl, by kernel_rfl⟩
def af87 : AFn := ⟨27, [.tmp 4], .seq (.ops [⟨some 4, .mov (.lit (.int .i64 0)), none⟩])
 (.seq (.block 0 (.seq (.ops [⟨some 6, .mov (.tmp 0), none⟩,
       ⟨some 7, .len 0 (.tmp 6), none⟩,
       ⟨some 8, .mov (.tmp 1), none⟩,
       ⟨some 9, .len 0 (.tmp 8), none⟩,
       ⟨some 10, .bin .lss .no (.tmp 7) (.tmp 9), none⟩,
       ⟨some 11, .mov (.tmp 10), none⟩,
       ⟨some 12, .mov (.tmp 0), some (11, false)⟩,
       ⟨some 13, .len 0 (.tmp 12), some (11, false)⟩,
       ⟨some 14, .mov (.tmp 1), some (11, false)⟩,
       ⟨some 15, .len 0 (.tmp 14), some (11, false)⟩,
       ⟨some 16, .bin .eql .no (.tmp 13) (.tmp 15), some (11, false)⟩,
       ⟨some 17, .mov (.tmp 16), some (11, false)⟩,
       ⟨some 18, .mov (.tmp 0), some (17, true)⟩,
       ⟨some 19, .mov (.tmp 1), some (17, true)⟩,
       ⟨some 20, .bin .lss .no (.tmp 18) (.tmp 19), some (17, true)⟩,
       ⟨some 21, .pick (.tmp 17) (.tmp 20) (.lit (.bool false)), some (11, false)⟩,
       ⟨some 22, .pick (.tmp 11) (.lit (.bool true)) (.tmp 21), none⟩,
       ⟨some 5, .mov (.tmp 22), none⟩])
    (.cond (.tmp 5) (.seq (.ops [⟨some 4, .mov (.lit (.int .i64 (-1))), none⟩])
      .ret) (.seq (.ops [⟨some 24, .mov (.tmp 0), none⟩,
         ⟨some 25, .mov (.tmp 1), none⟩,
         ⟨some 26, .bin .eql .no (.tmp 24) (.tmp 25), none⟩,
         ⟨some 23, .mov (.tmp 26), none⟩])
      (.cond (.tmp 23) (.seq (.ops [⟨some 4, .mov (.lit (.int .i64 0)), none⟩])
        .ret) .skip)))))
  (.seq (.ops [⟨some 4, .mov (.lit (.int .i64 1)), none⟩])
   .ret))⟩
theorem ok87 : FnOK Go.Proofs.Try.prog 87 af87 := ⟨Go.Proofs.Try.f87, Go.Proofs.Try.func87, by kernel_rfl, by kernel_rfl⟩
def af88 : AFn := ⟨43, [.tmp 4], .seq (.ops [⟨some 4, .mov (.lit (.str [])), none⟩])
 (.seq (.ops [⟨some 10, .mov (.tmp 0), none⟩,
     ⟨some 11, .call (.lit (.fn (.func 91) [] [])) [.tmp 10], none⟩,
     ⟨some 12, .mov (.tmp 1), none⟩,
     ⟨some 13, .call (.lit (.fn (.func 91) [] [])) [.tmp 12], none⟩,
     ⟨some 5, .mov (.tmp 11), none⟩,
     ⟨some 6, .mov (.tmp 13), none⟩])
  (.seq (.ops [⟨some 7, .mov (.lit (.int .u64 0)), none⟩])
   (.seq (.seq (.ops [⟨some 14, .mov (.tmp 5), none⟩,
        ⟨some 15, .len 1 (.tmp 14), none⟩,
        ⟨some 16, .mov (.lit (.int .i64 0)), none⟩])
     (.block 0 (.loop (.seq (.ops [⟨some 17, .bin .lss .no (.tmp 16) (.tmp 15), none⟩])
        (.seq (.cond (.tmp 17) .skip (.exit 0))
         (.seq (.block 1 (.seq (.ops [⟨some 18, .mov (.tmp 16), none⟩,
               ⟨some 8, .mov (.tmp 18), none⟩])
            (.seq (.ops [⟨some 9, .mov (.lit (.int .u64 0)), none⟩])
             (.seq (.seq (.ops [⟨some 19, .mov (.tmp 8), none⟩,
                  ⟨some 20, .mov (.tmp 6), none⟩,
                  ⟨some 21, .len 1 (.tmp 20), none⟩,
                  ⟨some 22, .bin .lss .no (.tmp 19) (.tmp 21), none⟩])
               (.cond (.tmp 22) (.ops [⟨some 23, .mov (.tmp 6), none⟩,
                   ⟨some 24, .mov (.tmp 8), none⟩,
                   ⟨some 25, .iaddr none 1 (.tmp 23) (.tmp 24), none⟩,
                   ⟨some 26, .load none (.tmp 25), none⟩,
                   ⟨some 9, .mov (.tmp 26), none⟩]) .skip))
              (.ops [⟨some 28, .mov (.tmp 5), none⟩,
                 ⟨some 29, .mov (.tmp 8), none⟩,
                 ⟨some 30, .mov (.tmp 5), none⟩,
                 ⟨some 31, .mov (.tmp 8), none⟩,
                 ⟨some 32, .iaddr none 1 (.tmp 30) (.tmp 31), none⟩,
                 ⟨some 33, .load none (.tmp 32), none⟩,
                 ⟨some 34, .mov (.tmp 9), none⟩,
                 ⟨some 35, .mov (.tmp 7), none⟩,
                 ⟨some 36, .call (.lit (.fn (.func 109) [] [])) [.tmp 33, .tmp 34, .tmp 35], none⟩,
                 ⟨some 27, .mov (.tmp 36), none⟩,
                 ⟨some 37, .extr 0 (.tmp 27), none⟩,
                 ⟨some 38, .extr 1 (.tmp 27), none⟩,
                 ⟨some 39, .iaddr none 1 (.tmp 28) (.tmp 29), none⟩,
                 ⟨none, .store 1 (.tmp 39) (.tmp 37), none⟩,
                 ⟨some 7, .mov (.tmp 38), none⟩])))))
          (.ops [⟨some 40, .bin .add .no (.tmp 16) (.lit (.int .i64 1)), none⟩,
             ⟨some 16, .mov (.tmp 40), none⟩])))))))
    (.seq (.ops [⟨some 41, .mov (.tmp 5), none⟩,
        ⟨some 42, .call (.lit (.fn (.func 89) [] [])) [.tmp 41], none⟩,
        ⟨some 4, .mov (.tmp 42), none⟩])
     .ret))))⟩
theorem ok88 : FnOK Go.Proofs.Try.prog 88 af88 := ⟨Go.Proofs.Try.f88, Go.Proofs.Try.func88, by kernel_rfl, by kernel_rfl⟩
def af89 : AFn := ⟨55, [.tmp 2], .seq (.ops [⟨some 2, .mov (.lit (.str [])), none⟩])
 (.seq (.ops [⟨some 8, .mov (.tmp 0), none⟩,
     ⟨some 9, .call (.lit (.fn (.func 110) [] [])) [.tmp 8], none⟩,
     ⟨some 0, .mov (.tmp 9), none⟩])
  (.seq (.seq (.ops [⟨some 10, .mov (.tmp 0), none⟩,
       ⟨some 11, .len 1 (.tmp 10), none⟩,
       ⟨some 12, .bin .eql .no (.tmp 11) (.lit (.int .i64 0)), none⟩])
    (.cond (.tmp 12) (.seq (.ops [⟨some 2, .mov (.lit (.str [])), none⟩])
      .ret) .skip))
   (.seq (.ops [⟨some 13, .mov (.tmp 0), none⟩,
       ⟨some 14, .len 1 (.tmp 13), none⟩,
       ⟨some 15, .bin .mul .no (.lit (.int .i64 8)) (.tmp 14), none⟩,
       ⟨some 16, .mkslice 1 1 [.int .u8 0] (.tmp 15) (.tmp 15), none⟩,
       ⟨some 3, .mov (.tmp 16), none⟩])
    (.seq (.seq (.ops [⟨some 17, .mov (.tmp 0), none⟩,
         ⟨some 18, .len 1 (.tmp 17), none⟩,
         ⟨some 19, .mov (.lit (.int .i64 0)), none⟩])
      (.block 0 (.loop (.seq (.ops [⟨some 20, .bin .lss .no (.tmp 19) (.tmp 18), none⟩])
         (.seq (.cond (.tmp 20) .skip (.exit 0))
          (.seq (.block 1 (.seq (.ops [⟨some 21, .mov (.tmp 19), none⟩,
                ⟨some 22, .iaddr none 1 (.tmp 17) (.tmp 19), none⟩,
                ⟨some 23, .load none (.tmp 22), none⟩,
                ⟨some 4, .mov (.tmp 21), none⟩,
                ⟨some 5, .mov (.tmp 23), none⟩])
             (.seq (.ops [⟨some 24, .mov (.lit (.int .i64 0)), none⟩])
              (.block 2 (.loop (.seq (.ops [⟨some 25, .bin .lss .no (.tmp 24) (.lit (.int .i64 8)), none⟩])
                 (.seq (.cond (.tmp 25) .skip (.exit 2))
                  (.seq (.block 3 (.seq (.ops [⟨some 26, .mov (.tmp 24), none⟩,
                        ⟨some 6, .mov (.tmp 26), none⟩])
                     (.ops [⟨some 27, .mov (.tmp 3), none⟩,
                        ⟨some 28, .mov (.tmp 3), none⟩,
                        ⟨some 29, .len 1 (.tmp 28), none⟩,
                        ⟨some 30, .bin .sub .no (.tmp 29) (.lit (.int .i64 1)), none⟩,
                        ⟨some 31, .mov (.tmp 4), none⟩,
                        ⟨some 32, .bin .mul .no (.lit (.int .i64 8)) (.tmp 31), none⟩,
                        ⟨some 33, .bin .sub .no (.tmp 30) (.tmp 32), none⟩,
                        ⟨some 34, .mov (.tmp 6), none⟩,
                        ⟨some 35, .bin .sub .no (.tmp 33) (.tmp 34), none⟩,
                        ⟨some 36, .mov (.tmp 5), none⟩,
                        ⟨some 37, .mov (.tmp 6), none⟩,
                        ⟨some 38, .bin .mul .no (.lit (.int .i64 8)) (.tmp 37), none⟩,
                        ⟨some 39, .bin .shr .no (.tmp 36) (.tmp 38), none⟩,
                        ⟨some 40, .toInt .u8 (.tmp 39), none⟩,
                        ⟨some 41, .iaddr none 1 (.tmp 27) (.tmp 35), none⟩,
                        ⟨none, .store 1 (.tmp 41) (.tmp 40), none⟩])))
                   (.ops [⟨some 42, .bin .add .no (.tmp 24) (.lit (.int .i64 1)), none⟩,
                      ⟨some 24, .mov (.tmp 42), none⟩])))))))))
           (.ops [⟨some 43, .bin .add .no (.tmp 19) (.lit (.int .i64 1)), none⟩,
              ⟨some 19, .mov (.tmp 43), none⟩])))))))
     (.seq (.ops [⟨some 7, .mov (.lit (.int .i64 0)), none⟩])
      (.seq (.block 4 (.loop (.seq (.seq (.ops [⟨some 44, .mov (.tmp 3), none⟩,
              ⟨some 45, .mov (.tmp 7), none⟩,
              ⟨some 46, .iaddr none 1 (.tmp 44) (.tmp 45), none⟩,
              ⟨some 47, .load none (.tmp 46), none⟩,
              ⟨some 48, .bin .eql .no (.tmp 47) (.lit (.int .u8 0)), none⟩])
           (.cond (.tmp 48) .skip (.exit 4)))
          (.block 5 (.ops [⟨some 49, .mov (.tmp 7), none⟩,
              ⟨some 50, .bin .add .no (.tmp 49) (.lit (.int .i64 1)), none⟩,
              ⟨some 7, .mov (.tmp 50), none⟩])))))
       (.seq (.ops [⟨some 51, .mov (.tmp 3), none⟩,
           ⟨some 52, .mov (.tmp 7), none⟩,
           ⟨some 53, .slice 1 (.tmp 51) (some (.tmp 52)) none none, none⟩,
           ⟨some 54, .toStr (.tmp 53), none⟩,
           ⟨some 2, .mov (.tmp 54), none⟩])
        .ret)))))))⟩
theorem ok89 : FnOK Go.Proofs.Try.prog 89 af89 := ⟨Go.Proofs.Try.f89, Go.Proofs.Try.func89, by kernel_rfl, by kernel_rfl⟩
def af90 : AFn := ⟨80, [.tmp 4], .seq (.ops [⟨some 4, .mov (.lit .nils), none⟩])
 (.seq (.ops [⟨some 14, .mov (.tmp 0), none⟩,
     ⟨some 15, .len 1 (.tmp 14), none⟩,
     ⟨some 16, .mov (.tmp 1), none⟩,
     ⟨some 17, .len 1 (.tmp 16), none⟩,
     ⟨some 18, .bin .add .no (.tmp 15) (.tmp 17), none⟩,
     ⟨some 19, .mkslice 1 8 [.int .u64 0] (.tmp 18) (.tmp 18), none⟩,
     ⟨some 5, .mov (.tmp 19), none⟩])
  (.seq (.seq (.ops [⟨some 20, .mov (.tmp 0), none⟩,
       ⟨some 21, .len 1 (.tmp 20), none⟩,
       ⟨some 22, .mov (.lit (.int .i64 0)), none⟩])
    (.block 0 (.loop (.seq (.ops [⟨some 23, .bin .lss .no (.tmp 22) (.tmp 21), none⟩])
       (.seq (.cond (.tmp 23) .skip (.exit 0))
        (.seq (.block 1 (.seq (.ops [⟨some 24, .mov (.tmp 22), none⟩,
              ⟨some 25, .iaddr none 1 (.tmp 20) (.tmp 22), none⟩,
              ⟨some 26, .load none (.tmp 25), none⟩,
              ⟨some 6, .mov (.tmp 24), none⟩,
              ⟨some 7, .mov (.tmp 26), none⟩])
           (.seq (.ops [⟨some 8, .mov (.lit (.int .u64 0)), none⟩])
            (.seq (.seq (.ops [⟨some 27, .mov (.tmp 1), none⟩,
                 ⟨some 28, .len 1 (.tmp 27), none⟩,
                 ⟨some 29, .mov (.lit (.int .i64 0)), none⟩])
              (.block 2 (.loop (.seq (.ops [⟨some 30, .bin .lss .no (.tmp 29) (.tmp 28), none⟩])
                 (.seq (.cond (.tmp 30) .skip (.exit 2))
                  (.seq (.block 3 (.seq (.ops [⟨some 31, .mov (.tmp 29), none⟩,
                        ⟨some 32, .iaddr none 1 (.tmp 27) (.tmp 29), none⟩,
                        ⟨some 33, .load none (.tmp 32), none⟩,
                        ⟨some 9, .mov (.tmp 31), none⟩,
                        ⟨some 10, .mov (.tmp 33), none⟩])
                     (.seq (.ops [⟨some 35, .mov (.tmp 7), none⟩,
                         ⟨some 36, .mov (.tmp 10), none⟩,
                         ⟨some 37, .call (.lit (.fn (.func 111) [] [])) [.tmp 35, .tmp 36], none⟩,
                         ⟨some 34, .mov (.tmp 37), none⟩,
                         ⟨some 38, .extr 0 (.tmp 34), none⟩,
                         ⟨some 39, .extr 1 (.tmp 34), none⟩,
                         ⟨some 11, .mov (.tmp 38), none⟩,
                         ⟨some 12, .mov (.tmp 39), none⟩])
                      (.seq (.ops [⟨some 13, .mov (.lit (.int .u64 0)), none⟩])
                       (.seq (.ops [⟨some 41, .mov (.tmp 12), none⟩,
                           ⟨some 42, .mov (.tmp 5), none⟩,
                           ⟨some 43, .mov (.tmp 6), none⟩,
                           ⟨some 44, .mov (.tmp 9), none⟩,
                           ⟨some 45, .bin .add .no (.tmp 43) (.tmp 44), none⟩,
                           ⟨some 46, .iaddr none 1 (.tmp 42) (.tmp 45), none⟩,
                           ⟨some 47, .load none (.tmp 46), none⟩,
                           ⟨some 48, .call (.lit (.fn (.func 108) [] [])) [.tmp 41, .tmp 47, .lit (.int .u64 0)], none⟩,
                           ⟨some 40, .mov (.tmp 48), none⟩,
                           ⟨some 49, .extr 0 (.tmp 40), none⟩,
                           ⟨some 50, .extr 1 (.tmp 40), none⟩,
                           ⟨some 12, .mov (.tmp 49), none⟩,
                           ⟨some 13, .mov (.tmp 50), none⟩])
                        (.seq (.ops [⟨some 51, .mov (.tmp 11), none⟩,
                            ⟨some 52, .mov (.tmp 13), none⟩,
                            ⟨some 53, .bin .add .no (.tmp 51) (.tmp 52), none⟩,
                            ⟨some 11, .mov (.tmp 53), none⟩])
                         (.seq (.ops [⟨some 55, .mov (.tmp 12), none⟩,
                             ⟨some 56, .mov (.tmp 8), none⟩,
                             ⟨some 57, .call (.lit (.fn (.func 108) [] [])) [.tmp 55, .tmp 56, .lit (.int .u64 0)], none⟩,
                             ⟨some 54, .mov (.tmp 57), none⟩,
                             ⟨some 58, .extr 0 (.tmp 54), none⟩,
                             ⟨some 59, .extr 1 (.tmp 54), none⟩,
                             ⟨some 12, .mov (.tmp 58), none⟩,
                             ⟨some 13, .mov (.tmp 59), none⟩])
                          (.ops [⟨some 60, .mov (.tmp 5), none⟩,
                             ⟨some 61, .mov (.tmp 6), none⟩,
                             ⟨some 62, .mov (.tmp 9), none⟩,
                             ⟨some 63, .bin .add .no (.tmp 61) (.tmp 62), none⟩,
                             ⟨some 64, .mov (.tmp 12), none⟩,
                             ⟨some 65, .mov (.tmp 11), none⟩,
                             ⟨some 66, .mov (.tmp 13), none⟩,
                             ⟨some 67, .bin .add .no (.tmp 65) (.tmp 66), none⟩,
                             ⟨some 68, .iaddr none 1 (.tmp 60) (.tmp 63), none⟩,
                             ⟨none, .store 1 (.tmp 68) (.tmp 64), none⟩,
                             ⟨some 8, .mov (.tmp 67), none⟩]))))))))
                   (.ops [⟨some 69, .bin .add .no (.tmp 29) (.lit (.int .i64 1)), none⟩,
                      ⟨some 29, .mov (.tmp 69), none⟩])))))))
             (.ops [⟨some 70, .mov (.tmp 5), none⟩,
                ⟨some 71, .mov (.tmp 6), none⟩,
                ⟨some 72, .mov (.tmp 1), none⟩,
                ⟨some 73, .len 1 (.tmp 72), none⟩,
                ⟨some 74, .bin .add .no (.tmp 71) (.tmp 73), none⟩,
                ⟨some 75, .mov (.tmp 8), none⟩,
                ⟨some 76, .iaddr none 1 (.tmp 70) (.tmp 74), none⟩,
                ⟨none, .store 1 (.tmp 76) (.tmp 75), none⟩])))))
         (.ops [⟨some 77, .bin .add .no (.tmp 22) (.lit (.int .i64 1)), none⟩,
            ⟨some 22, .mov (.tmp 77), none⟩])))))))
   (.seq (.ops [⟨some 78, .mov (.tmp 5), none⟩,
       ⟨some 79, .call (.lit (.fn (.func 110) [] [])) [.tmp 78], none⟩,
       ⟨some 4, .mov (.tmp 79), none⟩])
    .ret)))⟩
theorem ok90 : FnOK Go.Proofs.Try.prog 90 af90 := ⟨Go.Proofs.Try.f90, Go.Proofs.Try.func90, by kernel_rfl, by kernel_rfl⟩
def af91 : AFn := ⟨39, [.tmp 2], .seq (.ops [⟨some 2, .mov (.lit .nils), none⟩])
 (.seq (.ops [⟨some 6, .mov (.tmp 0), none⟩,
     ⟨some 7, .len 0 (.tmp 6), none⟩,
     ⟨some 8, .bin .add .no (.tmp 7) (.lit (.int .i64 7)), none⟩,
     ⟨some 9, .bin .quo .no (.tmp 8) (.lit (.int .i64 8)), none⟩,
     ⟨some 10, .mkslice 1 8 [.int .u64 0] (.tmp 9) (.tmp 9), none⟩,
     ⟨some 3, .mov (.tmp 10), none⟩])
  (.seq (.seq (.ops [⟨some 11, .mov (.tmp 0), none⟩,
       ⟨some 12, .len 0 (.tmp 11), none⟩,
       ⟨some 13, .mov (.lit (.int .i64 0)), none⟩])
    (.block 0 (.loop (.seq (.ops [⟨some 14, .bin .lss .no (.tmp 13) (.tmp 12), none⟩])
       (.seq (.cond (.tmp 14) .skip (.exit 0))
        (.seq (.block 1 (.seq (.ops [⟨some 15, .mov (.tmp 13), none⟩,
              ⟨some 4, .mov (.tmp 15), none⟩])
           (.seq (.ops [⟨some 16, .mov (.tmp 0), none⟩,
               ⟨some 17, .len 0 (.tmp 16), none⟩,
               ⟨some 18, .bin .sub .no (.tmp 17) (.lit (.int .i64 1)), none⟩,
               ⟨some 19, .mov (.tmp 4), none⟩,
               ⟨some 20, .bin .sub .no (.tmp 18) (.tmp 19), none⟩,
               ⟨some 5, .mov (.tmp 20), none⟩])
            (.draw [(⟨some 21, .mov (.tmp 3), none⟩, 0),
               (⟨some 22, .mov (.tmp 5), none⟩, 0),
               (⟨some 23, .bin .quo .no (.tmp 22) (.lit (.int .i64 8)), none⟩, 0),
               (⟨some 24, .iaddr none 1 (.tmp 21) (.tmp 23), none⟩, 0),
               (⟨some 25, .load none (.tmp 24), none⟩, 0),
               (⟨some 26, .mov (.tmp 0), none⟩, 0),
               (⟨some 27, .mov (.tmp 4), none⟩, 0),
               (⟨some 28, .indexS (.tmp 26) (.tmp 27), none⟩, 0),
               (⟨some 29, .toInt .u64 (.tmp 28), none⟩, 0),
               (⟨some 30, .mov (.tmp 5), none⟩, 0),
               (⟨some 31, .bin .rem .no (.tmp 30) (.lit (.int .i64 8)), none⟩, 0),
               (⟨some 32, .bin .mul .no (.lit (.int .i64 8)) (.tmp 31), none⟩, 0),
               (⟨some 33, .bin .shl .no (.tmp 29) (.tmp 32), none⟩, 0),
               (⟨some 34, .bin .or .no (.tmp 25) (.tmp 33), none⟩, 0),
               (⟨some 35, .iaddr none 1 (.tmp 21) (.tmp 23), none⟩, 0),
               (⟨none, .store 1 (.tmp 35) (.tmp 34), none⟩, 0)]))))
         (.ops [⟨some 36, .bin .add .no (.tmp 13) (.lit (.int .i64 1)), none⟩,
            ⟨some 13, .mov (.tmp 36), none⟩])))))))
   (.seq (.ops [⟨some 37, .mov (.tmp 3), none⟩,
       ⟨some 38, .call (.lit (.fn (.func 110) [] [])) [.tmp 37], none⟩,
       ⟨some 2, .mov (.tmp 38), none⟩])
    .ret)))⟩
theorem ok91 : FnOK Go.Proofs.Try.prog 91 af91 := ⟨Go.Proofs.Try.f91, Go.Proofs.Try.func91, by kernel_rfl, by kernel_rfl⟩
def af92 : AFn := ⟨38, [.tmp 2], .seq (.ops [⟨some 2, .mov (.lit (.str [])), none⟩])
 (.seq (.ops [⟨some 3, .mov (.lit .nils), none⟩])
  (.seq (.seq (.ops [⟨some 7, .mov (.tmp 0), none⟩,
       ⟨some 8, .len 1 (.tmp 7), none⟩,
       ⟨some 9, .bin .sub .no (.tmp 8) (.lit (.int .i64 1)), none⟩,
       ⟨some 4, .mov (.tmp 9), none⟩])
    (.block 0 (.loop (.seq (.seq (.ops [⟨some 10, .mov (.tmp 4), none⟩,
           ⟨some 11, .bin .geq .no (.tmp 10) (.lit (.int .i64 0)), none⟩])
        (.cond (.tmp 11) .skip (.exit 0)))
       (.seq (.block 1 (.seq (.ops [⟨some 5, .mov (.lit (.int .i64 24)), none⟩])
          (.block 2 (.loop (.seq (.seq (.ops [⟨some 14, .mov (.tmp 5), none⟩,
                 ⟨some 15, .bin .geq .no (.tmp 14) (.lit (.int .i64 0)), none⟩])
              (.cond (.tmp 15) .skip (.exit 2)))
             (.seq (.block 3 (.seq (.ops [⟨some 18, .mov (.tmp 0), none⟩,
                   ⟨some 19, .mov (.tmp 4), none⟩,
                   ⟨some 20, .iaddr none 1 (.tmp 18) (.tmp 19), none⟩,
                   ⟨some 21, .load none (.tmp 20), none⟩,
                   ⟨some 22, .mov (.tmp 5), none⟩,
                   ⟨some 23, .bin .shr .no (.tmp 21) (.tmp 22), none⟩,
                   ⟨some 24, .toInt .u8 (.tmp 23), none⟩,
                   ⟨some 6, .mov (.tmp 24), none⟩])
                (.seq (.ops [⟨some 25, .mov (.tmp 3), none⟩,
                    ⟨some 26, .len 1 (.tmp 25), none⟩,
                    ⟨some 27, .bin .gtr .no (.tmp 26) (.lit (.int .i64 0)), none⟩,
                    ⟨some 28, .mov (.tmp 27), none⟩,
                    ⟨some 29, .mov (.tmp 6), some (28, false)⟩,
                    ⟨some 30, .bin .gtr .no (.tmp 29) (.lit (.int .u8 0)), some (28, false)⟩,
                    ⟨some 31, .pick (.tmp 28) (.lit (.bool true)) (.tmp 30), none⟩])
                 (.cond (.tmp 31) (.ops [⟨some 32, .mov (.tmp 3), none⟩,
                     ⟨some 33, .mov (.tmp 6), none⟩,
                     ⟨some 34, .bslice 1 1 [.int .u8 0] [(0, .tmp 33)], none⟩,
                     ⟨some 35, .append 1 1 [.int .u8 0] (.tmp 32) (.tmp 34), none⟩,
                     ⟨some 3, .mov (.tmp 35), none⟩]) .skip))))
              (.ops [⟨some 16, .mov (.tmp 5), none⟩,
                 ⟨some 17, .bin .sub .no (.tmp 16) (.lit (.int .i64 8)), none⟩,
                 ⟨some 5, .mov (.tmp 17), none⟩])))))))
        (.ops [⟨some 12, .mov (.tmp 4), none⟩,
           ⟨some 13, .bin .sub .no (.tmp 12) (.lit (.int .i64 1)), none⟩,
           ⟨some 4, .mov (.tmp 13), none⟩]))))))
   (.seq (.ops [⟨some 36, .mov (.tmp 3), none⟩,
       ⟨some 37, .toStr (.tmp 36), none⟩,
       ⟨some 2, .mov (.tmp 37), none⟩])
    .ret)))⟩
theorem ok92 : FnOK Go.Proofs.Try.prog 92 af92 := ⟨Go.Proofs.Try.f92, Go.Proofs.Try.func92, by kernel_rfl, by kernel_rfl⟩
def af93 : AFn := ⟨34, [.tmp 2], .seq (.ops [⟨some 2, .mov (.lit .nils), none⟩])
 (.seq (.ops [⟨some 3, .mov (.lit .nils), none⟩])
  (.seq (.seq (.ops [⟨some 7, .mov (.tmp 0), none⟩,
       ⟨some 8, .len 0 (.tmp 7), none⟩,
       ⟨some 4, .mov (.tmp 8), none⟩])
    (.block 0 (.loop (.seq (.seq (.ops [⟨some 9, .mov (.tmp 4), none⟩,
           ⟨some 10, .bin .gtr .no (.tmp 9) (.lit (.int .i64 0)), none⟩])
        (.cond (.tmp 10) .skip (.exit 0)))
       (.seq (.block 1 (.seq (.ops [⟨some 5, .mov (.lit (.int .u64 0)), none⟩])
          (.seq (.seq (.ops [⟨some 13, .mov (.tmp 4), none⟩,
               ⟨some 14, .bin .sub .no (.tmp 13) (.lit (.int .i64 4)), none⟩,
               ⟨some 15, .mx [.lit (.int .i64 0), .tmp 14], none⟩,
               ⟨some 6, .mov (.tmp 15), none⟩])
            (.block 2 (.loop (.seq (.seq (.ops [⟨some 16, .mov (.tmp 6), none⟩,
                   ⟨some 17, .mov (.tmp 4), none⟩,
                   ⟨some 18, .bin .lss .no (.tmp 16) (.tmp 17), none⟩])
                (.cond (.tmp 18) .skip (.exit 2)))
               (.seq (.block 3 (.ops [⟨some 21, .mov (.tmp 5), none⟩,
                    ⟨some 22, .bin .mul .no (.tmp 21) (.lit (.int .u64 256)), none⟩,
                    ⟨some 23, .mov (.tmp 0), none⟩,
                    ⟨some 24, .mov (.tmp 6), none⟩,
                    ⟨some 25, .indexS (.tmp 23) (.tmp 24), none⟩,
                    ⟨some 26, .toInt .u64 (.tmp 25), none⟩,
                    ⟨some 27, .bin .add .no (.tmp 22) (.tmp 26), none⟩,
                    ⟨some 5, .mov (.tmp 27), none⟩]))
                (.ops [⟨some 19, .mov (.tmp 6), none⟩,
                   ⟨some 20, .bin .add .no (.tmp 19) (.lit (.int .i64 1)), none⟩,
                   ⟨some 6, .mov (.tmp 20), none⟩]))))))
           (.ops [⟨some 28, .mov (.tmp 3), none⟩,
              ⟨some 29, .mov (.tmp 5), none⟩,
              ⟨some 30, .bslice 1 1 [.int .u64 0] [(0, .tmp 29)], none⟩,
              ⟨some 31, .append 1 8 [.int .u64 0] (.tmp 28) (.tmp 30), none⟩,
              ⟨some 3, .mov (.tmp 31), none⟩]))))
        (.ops [⟨some 11, .mov (.tmp 4), none⟩,
           ⟨some 12, .bin .sub .no (.tmp 11) (.lit (.int .i64 4)), none⟩,
           ⟨some 4, .mov (.tmp 12), none⟩]))))))
   (.seq (.ops [⟨some 32, .mov (.tmp 3), none⟩,
       ⟨some 33, .call (.lit (.fn (.func 112) [] [])) [.tmp 32], none⟩,
       ⟨some 2, .mov (.tmp 33), none⟩])
    .ret)))⟩
theorem ok93 : FnOK Go.Proofs.Try.prog 93 af93 := ⟨Go.Proofs.Try.f93, Go.Proofs.Try.func93, by kernel_rfl, by kernel_rfl⟩
def af94 : AFn := ⟨53, [], .seq (.ops [⟨some 10, .mov (.tmp 1), none⟩,
    ⟨some 11, .bin .add .no (.tmp 10) (.lit (.int .i64 1)), none⟩,
    ⟨some 8, .mov (.tmp 11), none⟩])
 (.block 0 (.loop (.seq (.seq (.ops [⟨some 12, .mov (.tmp 8), none⟩,
        ⟨some 13, .mov (.tmp 2), none⟩,
        ⟨some 14, .bin .lss .no (.tmp 12) (.tmp 13), none⟩])
     (.cond (.tmp 14) .skip (.exit 0)))
    (.seq (.block 1 (.seq (.ops [⟨some 17, .mov (.tmp 8), none⟩,
          ⟨some 9, .mov (.tmp 17), none⟩])
       (.block 2 (.loop (.seq (.seq (.draw [(⟨some 18, .mov (.tmp 9), none⟩, 0),
              (⟨some 19, .mov (.tmp 1), none⟩, 0),
              (⟨some 20, .bin .gtr .no (.tmp 18) (.tmp 19), none⟩, 0),
              (⟨some 21, .mov (.tmp 20), none⟩, 0),
              (⟨some 22, .mov (.tmp 3), some (21, true)⟩, 0),
              (⟨some 23, .mov (.tmp 0), some (21, true)⟩, 0),
              (⟨some 24, .mov (.tmp 9), some (21, true)⟩, 0),
              (⟨some 25, .iaddr none 3 (.tmp 23) (.tmp 24), some (21, true)⟩, 0),
              (⟨some 26, .load (some 3) (.tmp 25), some (21, true)⟩, 0),
              (⟨some 27, .mov (.tmp 0), some (21, true)⟩, 0),
              (⟨some 28, .mov (.tmp 9), some (21, true)⟩, 0),
              (⟨some 29, .bin .sub .no (.tmp 28) (.lit (.int .i64 1)), some (21, true)⟩, 0),
              (⟨some 30, .iaddr none 3 (.tmp 27) (.tmp 29), some (21, true)⟩, 0),
              (⟨some 31, .load (some 3) (.tmp 30), some (21, true)⟩, 0),
              (⟨some 32, .call (.tmp 22) [.tmp 26, .tmp 31], some (21, true)⟩, 0),
              (⟨some 33, .bin .lss .no (.tmp 32) (.lit (.int .i64 0)), some (21, true)⟩, 0),
              (⟨some 34, .pick (.tmp 21) (.tmp 33) (.lit (.bool false)), none⟩, 0)])
           (.cond (.tmp 34) .skip (.exit 2)))
          (.seq (.block 3 (.draw [(⟨some 37, .mov (.tmp 0), none⟩, 0),
               (⟨some 38, .mov (.tmp 9), none⟩, 0),
               (⟨some 39, .mov (.tmp 0), none⟩, 0),
               (⟨some 40, .mov (.tmp 9), none⟩, 0),
               (⟨some 41, .bin .sub .no (.tmp 40) (.lit (.int .i64 1)), none⟩, 0),
               (⟨some 42, .mov (.tmp 0), none⟩, 0),
               (⟨some 43, .mov (.tmp 9), none⟩, 0),
               (⟨some 44, .bin .sub .no (.tmp 43) (.lit (.int .i64 1)), none⟩, 0),
               (⟨some 45, .iaddr none 3 (.tmp 42) (.tmp 44), none⟩, 0),
               (⟨some 46, .load (some 3) (.tmp 45), none⟩, 0),
               (⟨some 47, .mov (.tmp 0), none⟩, 0),
               (⟨some 48, .mov (.tmp 9), none⟩, 0),
               (⟨some 49, .iaddr none 3 (.tmp 47) (.tmp 48), none⟩, 0),
               (⟨some 50, .load (some 3) (.tmp 49), none⟩, 0),
               (⟨some 51, .iaddr none 3 (.tmp 37) (.tmp 38), none⟩, 0),
               (⟨none, .store 3 (.tmp 51) (.tmp 46), none⟩, 0),
               (⟨some 52, .iaddr none 3 (.tmp 39) (.tmp 41), none⟩, 0),
               (⟨none, .store 3 (.tmp 52) (.tmp 50), none⟩, 0)]))
           (.ops [⟨some 35, .mov (.tmp 9), none⟩,
              ⟨some 36, .bin .sub .no (.tmp 35) (.lit (.int .i64 1)), none⟩,
              ⟨some 9, .mov (.tmp 36), none⟩])))))))
     (.ops [⟨some 15, .mov (.tmp 8), none⟩,
        ⟨some 16, .bin .add .no (.tmp 15) (.lit (.int .i64 1)), none⟩,
        ⟨some 8, .mov (.tmp 16), none⟩])))))⟩
theorem ok94 : FnOK Go.Proofs.Try.prog 94 af94 := ⟨Go.Proofs.Try.f94, Go.Proofs.Try.func94, by kernel_rfl, by kernel_rfl⟩
def af95 : AFn := ⟨60, [], .seq (.ops [⟨some 13, .mov (.tmp 1), none⟩,
    ⟨some 8, .mov (.tmp 13), none⟩])
 (.seq (.ops [⟨some 9, .mov (.lit (.int .i64 0)), none⟩])
  (.seq (.ops [⟨some 14, .mov (.tmp 2), none⟩,
      ⟨some 15, .mov (.tmp 1), none⟩,
      ⟨some 16, .bin .sub .no (.tmp 14) (.tmp 15), none⟩,
      ⟨some 10, .mov (.tmp 16), none⟩])
   (.seq (.seq (.ops [⟨some 17, .mov (.tmp 10), none⟩,
        ⟨some 18, .bin .sub .no (.tmp 17) (.lit (.int .i64 1)), none⟩,
        ⟨some 19, .bin .quo .no (.tmp 18) (.lit (.int .i64 2)), none⟩,
        ⟨some 11, .mov (.tmp 19), none⟩])
     (.block 0 (.loop (.seq (.seq (.ops [⟨some 20, .mov (.tmp 11), none⟩,
            ⟨some 21, .bin .geq .no (.tmp 20) (.lit (.int .i64 0)), none⟩])
         (.cond (.tmp 21) .skip (.exit 0)))
        (.seq (.block 1 (.ops [⟨some 24, .mov (.tmp 0), none⟩,
             ⟨some 25, .mov (.tmp 11), none⟩,
             ⟨some 26, .mov (.tmp 10), none⟩,
             ⟨some 27, .mov (.tmp 8), none⟩,
             ⟨some 28, .mov (.tmp 3), none⟩,
             ⟨some 29, .call (.lit (.fn (.func 113) [] [])) [.tmp 24, .tmp 25, .tmp 26, .tmp 27, .tmp 28], none⟩]))
         (.ops [⟨some 22, .mov (.tmp 11), none⟩,
            ⟨some 23, .bin .sub .no (.tmp 22) (.lit (.int .i64 1)), none⟩,
            ⟨some 11, .mov (.tmp 23), none⟩]))))))
    (.seq (.ops [⟨some 30, .mov (.tmp 10), none⟩,
        ⟨some 31, .bin .sub .no (.tmp 30) (.lit (.int .i64 1)), none⟩,
        ⟨some 12, .mov (.tmp 31), none⟩])
     (.block 2 (.loop (.seq (.seq (.ops [⟨some 32, .mov (.tmp 12), none⟩,
            ⟨some 33, .bin .geq .no (.tmp 32) (.lit (.int .i64 0)), none⟩])
         (.cond (.tmp 33) .skip (.exit 2)))
        (.seq (.block 3 (.seq (.draw [(⟨some 36, .mov (.tmp 0), none⟩, 0),
              (⟨some 37, .mov (.tmp 8), none⟩, 0),
              (⟨some 38, .mov (.tmp 0), none⟩, 0),
              (⟨some 39, .mov (.tmp 8), none⟩, 0),
              (⟨some 40, .mov (.tmp 12), none⟩, 0),
              (⟨some 41, .bin .add .no (.tmp 39) (.tmp 40), none⟩, 0),
              (⟨some 42, .mov (.tmp 0), none⟩, 0),
              (⟨some 43, .mov (.tmp 8), none⟩, 0),
              (⟨some 44, .mov (.tmp 12), none⟩, 0),
              (⟨some 45, .bin .add .no (.tmp 43) (.tmp 44), none⟩, 0),
              (⟨some 46, .iaddr none 3 (.tmp 42) (.tmp 45), none⟩, 0),
              (⟨some 47, .load (some 3) (.tmp 46), none⟩, 0),
              (⟨some 48, .mov (.tmp 0), none⟩, 0),
              (⟨some 49, .mov (.tmp 8), none⟩, 0),
              (⟨some 50, .iaddr none 3 (.tmp 48) (.tmp 49), none⟩, 0),
              (⟨some 51, .load (some 3) (.tmp 50), none⟩, 0),
              (⟨some 52, .iaddr none 3 (.tmp 36) (.tmp 37), none⟩, 0),
              (⟨none, .store 3 (.tmp 52) (.tmp 47), none⟩, 0),
              (⟨some 53, .iaddr none 3 (.tmp 38) (.tmp 41), none⟩, 0),
              (⟨none, .store 3 (.tmp 53) (.tmp 51), none⟩, 0)])
           (.ops [⟨some 54, .mov (.tmp 0), none⟩,
              ⟨some 55, .mov (.tmp 9), none⟩,
              ⟨some 56, .mov (.tmp 12), none⟩,
              ⟨some 57, .mov (.tmp 8), none⟩,
              ⟨some 58, .mov (.tmp 3), none⟩,
              ⟨some 59, .call (.lit (.fn (.func 113) [] [])) [.tmp 54, .tmp 55, .tmp 56, .tmp 57, .tmp 58], none⟩])))
         (.ops [⟨some 34, .mov (.tmp 12), none⟩,
            ⟨some 35, .bin .sub .no (.tmp 34) (.lit (.int .i64 1)), none⟩,
            ⟨some 12, .mov (.tmp 35), none⟩])))))))))⟩
theorem ok95 : FnOK Go.Proofs.Try.prog 95 af95 := ⟨Go.Proofs.Try.f95, Go.Proofs.Try.func95, by kernel_rfl, by kernel_rfl⟩
def af96 : AFn := ⟨67, [], .seq (.ops [⟨some 13, .mov (.tmp 2), none⟩,
    ⟨some 14, .mov (.tmp 1), none⟩,
    ⟨some 15, .bin .sub .no (.tmp 13) (.tmp 14), none⟩,
    ⟨some 8, .mov (.tmp 15), none⟩])
 (.seq (.ops [⟨some 16, .mov (.tmp 8), none⟩,
     ⟨some 17, .bin .geq .no (.tmp 16) (.lit (.int .i64 8)), none⟩])
  (.cond (.tmp 17) (.seq (.ops [⟨some 18, .mov (.tmp 8), none⟩,
       ⟨some 19, .toInt .u64 (.tmp 18), none⟩,
       ⟨some 9, .alloc [.int .u64 0], none⟩,
       ⟨none, .store 1 (.tmp 9) (.tmp 19), none⟩])
    (.seq (.ops [⟨some 20, .mov (.tmp 8), none⟩,
        ⟨some 21, .call (.lit (.fn (.func 114) [] [])) [.tmp 20], none⟩,
        ⟨some 10, .mov (.tmp 21), none⟩])
     (.seq (.ops [⟨some 22, .mov (.tmp 1), none⟩,
         ⟨some 23, .mov (.tmp 8), none⟩,
         ⟨some 24, .bin .quo .no (.tmp 23) (.lit (.int .i64 4)), none⟩,
         ⟨some 25, .bin .mul .no (.tmp 24) (.lit (.int .i64 2)), none⟩,
         ⟨some 26, .bin .add .no (.tmp 22) (.tmp 25), none⟩,
         ⟨some 27, .bin .sub .no (.tmp 26) (.lit (.int .i64 1)), none⟩,
         ⟨some 11, .mov (.tmp 27), none⟩])
      (.block 0 (.loop (.seq (.seq (.ops [⟨some 28, .mov (.tmp 11), none⟩,
             ⟨some 29, .mov (.tmp 1), none⟩,
             ⟨some 30, .mov (.tmp 8), none⟩,
             ⟨some 31, .bin .quo .no (.tmp 30) (.lit (.int .i64 4)), none⟩,
             ⟨some 32, .bin .mul .no (.tmp 31) (.lit (.int .i64 2)), none⟩,
             ⟨some 33, .bin .add .no (.tmp 29) (.tmp 32), none⟩,
             ⟨some 34, .bin .add .no (.tmp 33) (.lit (.int .i64 1)), none⟩,
             ⟨some 35, .bin .leq .no (.tmp 28) (.tmp 34), none⟩])
          (.cond (.tmp 35) .skip (.exit 0)))
         (.seq (.block 1 (.seq (.ops [⟨some 38, .call (.lit (.fn (.func 115) [] [])) [.tmp 9], none⟩,
               ⟨some 39, .mov (.tmp 10), none⟩,
               ⟨some 40, .bin .sub .no (.tmp 39) (.lit (.int .u64 1)), none⟩,
               ⟨some 41, .bin .and .no (.tmp 38) (.tmp 40), none⟩,
               ⟨some 42, .toInt .i64 (.tmp 41), none⟩,
               ⟨some 12, .mov (.tmp 42), none⟩])
            (.seq (.seq (.ops [⟨some 43, .mov (.tmp 12), none⟩,
                 ⟨some 44, .mov (.tmp 8), none⟩,
                 ⟨some 45, .bin .geq .no (.tmp 43) (.tmp 44), none⟩])
              (.cond (.tmp 45) (.ops [⟨some 46, .mov (.tmp 12), none⟩,
                  ⟨some 47, .mov (.tmp 8), none⟩,
                  ⟨some 48, .bin .sub .no (.tmp 46) (.tmp 47), none⟩,
                  ⟨some 12, .mov (.tmp 48), none⟩]) .skip))
             (.draw [(⟨some 49, .mov (.tmp 0), none⟩, 0),
                (⟨some 50, .mov (.tmp 11), none⟩, 0),
                (⟨some 51, .mov (.tmp 0), none⟩, 0),
                (⟨some 52, .mov (.tmp 1), none⟩, 0),
                (⟨some 53, .mov (.tmp 12), none⟩, 0),
                (⟨some 54, .bin .add .no (.tmp 52) (.tmp 53), none⟩, 0),
                (⟨some 55, .mov (.tmp 0), none⟩, 0),
                (⟨some 56, .mov (.tmp 1), none⟩, 0),
                (⟨some 57, .mov (.tmp 12), none⟩, 0),
                (⟨some 58, .bin .add .no (.tmp 56) (.tmp 57), none⟩, 0),
                (⟨some 59, .iaddr none 3 (.tmp 55) (.tmp 58), none⟩, 0),
                (⟨some 60, .load (some 3) (.tmp 59), none⟩, 0),
                (⟨some 61, .mov (.tmp 0), none⟩, 0),
                (⟨some 62, .mov (.tmp 11), none⟩, 0),
                (⟨some 63, .iaddr none 3 (.tmp 61) (.tmp 62), none⟩, 0),
                (⟨some 64, .load (some 3) (.tmp 63), none⟩, 0),
                (⟨some 65, .iaddr none 3 (.tmp 49) (.tmp 50), none⟩, 0),
                (⟨none, .store 3 (.tmp 65) (.tmp 60), none⟩, 0),
                (⟨some 66, .iaddr none 3 (.tmp 51) (.tmp 54), none⟩, 0),
                (⟨none, .store 3 (.tmp 66) (.tmp 64), none⟩, 0)]))))
          (.ops [⟨some 36, .mov (.tmp 11), none⟩,
             ⟨some 37, .bin .add .no (.tmp 36) (.lit (.int .i64 1)), none⟩,
             ⟨some 11, .mov (.tmp 37), none⟩])))))))) .skip))⟩
theorem ok96 : FnOK Go.Proofs.Try.prog 96 af96 := ⟨Go.Proofs.Try.f96, Go.Proofs.Try.func96, by kernel_rfl, by kernel_rfl⟩
def af97 : AFn := ⟨63, [.tmp 8, .tmp 9], .seq (.ops [⟨some 8, .mov (.lit (.int .i64 0)), none⟩,
    ⟨some 9, .mov (.lit (.int .i64 0)), none⟩])
 (.seq (.ops [⟨some 15, .mov (.tmp 2), none⟩,
     ⟨some 16, .mov (.tmp 1), none⟩,
     ⟨some 17, .bin .sub .no (.tmp 15) (.tmp 16), none⟩,
     ⟨some 10, .mov (.tmp 17), none⟩])
  (.seq (.ops [⟨some 11, .alloc [.int .i64 0], none⟩])
   (.seq (.ops [⟨some 18, .mov (.tmp 1), none⟩,
       ⟨some 19, .mov (.tmp 10), none⟩,
       ⟨some 20, .bin .quo .no (.tmp 19) (.lit (.int .i64 4)), none⟩,
       ⟨some 21, .bin .mul .no (.tmp 20) (.lit (.int .i64 1)), none⟩,
       ⟨some 22, .bin .add .no (.tmp 18) (.tmp 21), none⟩,
       ⟨some 12, .mov (.tmp 22), none⟩])
    (.seq (.ops [⟨some 23, .mov (.tmp 1), none⟩,
        ⟨some 24, .mov (.tmp 10), none⟩,
        ⟨some 25, .bin .quo .no (.tmp 24) (.lit (.int .i64 4)), none⟩,
        ⟨some 26, .bin .mul .no (.tmp 25) (.lit (.int .i64 2)), none⟩,
        ⟨some 27, .bin .add .no (.tmp 23) (.tmp 26), none⟩,
        ⟨some 13, .mov (.tmp 27), none⟩])
     (.seq (.ops [⟨some 28, .mov (.tmp 1), none⟩,
         ⟨some 29, .mov (.tmp 10), none⟩,
         ⟨some 30, .bin .quo .no (.tmp 29) (.lit (.int .i64 4)), none⟩,
         ⟨some 31, .bin .mul .no (.tmp 30) (.lit (.int .i64 3)), none⟩,
         ⟨some 32, .bin .add .no (.tmp 28) (.tmp 31), none⟩,
         ⟨some 14, .mov (.tmp 32), none⟩])
      (.seq (.seq (.ops [⟨some 33, .mov (.tmp 10), none⟩,
           ⟨some 34, .bin .geq .no (.tmp 33) (.lit (.int .i64 8)), none⟩])
        (.cond (.tmp 34) (.seq (.seq (.ops [⟨some 35, .mov (.tmp 10), none⟩,
              ⟨some 36, .bin .geq .no (.tmp 35) (.lit (.int .i64 50)), none⟩])
           (.cond (.tmp 36) (.seq (.ops [⟨some 37, .mov (.tmp 0), none⟩,
                ⟨some 38, .mov (.tmp 12), none⟩,
                ⟨some 39, .mov (.tmp 3), none⟩,
                ⟨some 40, .call (.lit (.fn (.func 116) [] [])) [.tmp 37, .tmp 38, .tmp 11, .tmp 39], none⟩,
                ⟨some 12, .mov (.tmp 40), none⟩])
             (.seq (.ops [⟨some 41, .mov (.tmp 0), none⟩,
                 ⟨some 42, .mov (.tmp 13), none⟩,
                 ⟨some 43, .mov (.tmp 3), none⟩,
                 ⟨some 44, .call (.lit (.fn (.func 116) [] [])) [.tmp 41, .tmp 42, .tmp 11, .tmp 43], none⟩,
                 ⟨some 13, .mov (.tmp 44), none⟩])
              (.ops [⟨some 45, .mov (.tmp 0), none⟩,
                 ⟨some 46, .mov (.tmp 14), none⟩,
                 ⟨some 47, .mov (.tmp 3), none⟩,
                 ⟨some 48, .call (.lit (.fn (.func 116) [] [])) [.tmp 45, .tmp 46, .tmp 11, .tmp 47], none⟩,
                 ⟨some 14, .mov (.tmp 48), none⟩]))) .skip))
          (.ops [⟨some 49, .mov (.tmp 0), none⟩,
             ⟨some 50, .mov (.tmp 12), none⟩,
             ⟨some 51, .mov (.tmp 13), none⟩,
             ⟨some 52, .mov (.tmp 14), none⟩,
             ⟨some 53, .mov (.tmp 3), none⟩,
             ⟨some 54, .call (.lit (.fn (.func 117) [] [])) [.tmp 49, .tmp 50, .tmp 51, .tmp 52, .tmp 11, .tmp 53], none⟩,
             ⟨some 13, .mov (.tmp 54), none⟩])) .skip))
       (.seq (.ops [⟨some 55, .load none (.tmp 11), none⟩])
        (.block 0 (.seq (.ops [⟨some 58, .bin .eql .no (.tmp 55) (.lit (.int .i64 0)), none⟩,
             ⟨some 57, .mov (.tmp 58), none⟩])
          (.cond (.tmp 57) (.seq (.ops [⟨some 59, .mov (.tmp 13), none⟩,
               ⟨some 8, .mov (.tmp 59), none⟩,
               ⟨some 9, .mov (.lit (.int .i64 1)), none⟩])
            .ret) (.seq (.ops [⟨some 61, .bin .eql .no (.tmp 55) (.lit (.int .i64 12)), none⟩,
               ⟨some 60, .mov (.tmp 61), none⟩])
            (.cond (.tmp 60) (.seq (.ops [⟨some 62, .mov (.tmp 13), none⟩,
                 ⟨some 8, .mov (.tmp 62), none⟩,
                 ⟨some 9, .mov (.lit (.int .i64 2)), none⟩])
              .ret) (.seq (.ops [⟨some 56, .mov (.tmp 13), none⟩,
                 ⟨some 8, .mov (.tmp 56), none⟩,
                 ⟨some 9, .mov (.lit (.int .i64 0)), none⟩])
              .ret)))))))))))))⟩
theorem ok97 : FnOK Go.Proofs.Try.prog 97 af97 := ⟨Go.Proofs.Try.f97, Go.Proofs.Try.func97, by kernel_rfl, by kernel_rfl⟩
def af98 : AFn := ⟨34, [], .seq (.ops [⟨some 10, .mov (.tmp 1), none⟩,
    ⟨some 8, .mov (.tmp 10), none⟩])
 (.seq (.ops [⟨some 11, .mov (.tmp 2), none⟩,
     ⟨some 12, .bin .sub .no (.tmp 11) (.lit (.int .i64 1)), none⟩,
     ⟨some 9, .mov (.tmp 12), none⟩])
  (.block 0 (.loop (.seq (.seq (.ops [⟨some 13, .mov (.tmp 8), none⟩,
         ⟨some 14, .mov (.tmp 9), none⟩,
         ⟨some 15, .bin .lss .no (.tmp 13) (.tmp 14), none⟩])
      (.cond (.tmp 15) .skip (.exit 0)))
     (.block 1 (.seq (.draw [(⟨some 16, .mov (.tmp 0), none⟩, 0),
          (⟨some 17, .mov (.tmp 8), none⟩, 0),
          (⟨some 18, .mov (.tmp 0), none⟩, 0),
          (⟨some 19, .mov (.tmp 9), none⟩, 0),
          (⟨some 20, .mov (.tmp 0), none⟩, 0),
          (⟨some 21, .mov (.tmp 9), none⟩, 0),
          (⟨some 22, .iaddr none 3 (.tmp 20) (.tmp 21), none⟩, 0),
          (⟨some 23, .load (some 3) (.tmp 22), none⟩, 0),
          (⟨some 24, .mov (.tmp 0), none⟩, 0),
          (⟨some 25, .mov (.tmp 8), none⟩, 0),
          (⟨some 26, .iaddr none 3 (.tmp 24) (.tmp 25), none⟩, 0),
          (⟨some 27, .load (some 3) (.tmp 26), none⟩, 0),
          (⟨some 28, .iaddr none 3 (.tmp 16) (.tmp 17), none⟩, 0),
          (⟨none, .store 3 (.tmp 28) (.tmp 23), none⟩, 0),
          (⟨some 29, .iaddr none 3 (.tmp 18) (.tmp 19), none⟩, 0),
          (⟨none, .store 3 (.tmp 29) (.tmp 27), none⟩, 0)])
       (.seq (.ops [⟨some 30, .mov (.tmp 8), none⟩,
           ⟨some 31, .bin .add .no (.tmp 30) (.lit (.int .i64 1)), none⟩,
           ⟨some 8, .mov (.tmp 31), none⟩])
        (.ops [⟨some 32, .mov (.tmp 9), none⟩,
           ⟨some 33, .bin .sub .no (.tmp 32) (.lit (.int .i64 1)), none⟩,
           ⟨some 9, .mov (.tmp 33), none⟩]))))))))⟩
theorem ok98 : FnOK Go.Proofs.Try.prog 98 af98 := ⟨Go.Proofs.Try.f98, Go.Proofs.Try.func98, by kernel_rfl, by kernel_rfl⟩
def af99 : AFn := ⟨141, [.tmp 8], .seq (.ops [⟨some 8, .mov (.lit (.bool false)), none⟩])
 (.seq (.ops [⟨some 13, .mov (.tmp 1), none⟩,
     ⟨some 14, .bin .add .no (.tmp 13) (.lit (.int .i64 1)), none⟩,
     ⟨some 9, .mov (.tmp 14), none⟩])
  (.seq (.seq (.ops [⟨some 10, .mov (.lit (.int .i64 0)), none⟩])
    (.block 0 (.loop (.seq (.seq (.ops [⟨some 15, .mov (.tmp 10), none⟩,
           ⟨some 16, .bin .lss .no (.tmp 15) (.lit (.int .i64 5)), none⟩])
        (.cond (.tmp 16) .skip (.exit 0)))
       (.seq (.block 1 (.seq (.block 2 (.loop (.seq (.seq (.draw [(⟨some 19, .mov (.tmp 9), none⟩, 0),
                 (⟨some 20, .mov (.tmp 2), none⟩, 0),
                 (⟨some 21, .bin .lss .no (.tmp 19) (.tmp 20), none⟩, 0),
                 (⟨some 22, .mov (.tmp 21), none⟩, 0),
                 (⟨some 23, .mov (.tmp 3), some (22, true)⟩, 0),
                 (⟨some 24, .mov (.tmp 0), some (22, true)⟩, 0),
                 (⟨some 25, .mov (.tmp 9), some (22, true)⟩, 0),
                 (⟨some 26, .iaddr none 3 (.tmp 24) (.tmp 25), some (22, true)⟩, 0),
                 (⟨some 27, .load (some 3) (.tmp 26), some (22, true)⟩, 0),
                 (⟨some 28, .mov (.tmp 0), some (22, true)⟩, 0),
                 (⟨some 29, .mov (.tmp 9), some (22, true)⟩, 0),
                 (⟨some 30, .bin .sub .no (.tmp 29) (.lit (.int .i64 1)), some (22, true)⟩, 0),
                 (⟨some 31, .iaddr none 3 (.tmp 28) (.tmp 30), some (22, true)⟩, 0),
                 (⟨some 32, .load (some 3) (.tmp 31), some (22, true)⟩, 0),
                 (⟨some 33, .call (.tmp 23) [.tmp 27, .tmp 32], some (22, true)⟩, 0),
                 (⟨some 34, .bin .lss .no (.tmp 33) (.lit (.int .i64 0)), some (22, true)⟩, 0),
                 (⟨some 35, .un .not (.tmp 34), some (22, true)⟩, 0),
                 (⟨some 36, .pick (.tmp 22) (.tmp 35) (.lit (.bool false)), none⟩, 0)])
              (.cond (.tmp 36) .skip (.exit 2)))
             (.block 3 (.ops [⟨some 37, .mov (.tmp 9), none⟩,
                 ⟨some 38, .bin .add .no (.tmp 37) (.lit (.int .i64 1)), none⟩,
                 ⟨some 9, .mov (.tmp 38), none⟩])))))
          (.seq (.seq (.ops [⟨some 39, .mov (.tmp 9), none⟩,
               ⟨some 40, .mov (.tmp 2), none⟩,
               ⟨some 41, .bin .eql .no (.tmp 39) (.tmp 40), none⟩])
            (.cond (.tmp 41) (.seq (.ops [⟨some 8, .mov (.lit (.bool true)), none⟩])
              .ret) .skip))
           (.seq (.seq (.ops [⟨some 42, .mov (.tmp 2), none⟩,
                ⟨some 43, .mov (.tmp 1), none⟩,
                ⟨some 44, .bin .sub .no (.tmp 42) (.tmp 43), none⟩,
                ⟨some 45, .bin .lss .no (.tmp 44) (.lit (.int .i64 50)), none⟩])
             (.cond (.tmp 45) (.seq (.ops [⟨some 8, .mov (.lit (.bool false)), none⟩])
               .ret) .skip))
            (.seq (.draw [(⟨some 46, .mov (.tmp 0), none⟩, 0),
                (⟨some 47, .mov (.tmp 9), none⟩, 0),
                (⟨some 48, .mov (.tmp 0), none⟩, 0),
                (⟨some 49, .mov (.tmp 9), none⟩, 0),
                (⟨some 50, .bin .sub .no (.tmp 49) (.lit (.int .i64 1)), none⟩, 0),
                (⟨some 51, .mov (.tmp 0), none⟩, 0),
                (⟨some 52, .mov (.tmp 9), none⟩, 0),
                (⟨some 53, .bin .sub .no (.tmp 52) (.lit (.int .i64 1)), none⟩, 0),
                (⟨some 54, .iaddr none 3 (.tmp 51) (.tmp 53), none⟩, 0),
                (⟨some 55, .load (some 3) (.tmp 54), none⟩, 0),
                (⟨some 56, .mov (.tmp 0), none⟩, 0),
                (⟨some 57, .mov (.tmp 9), none⟩, 0),
                (⟨some 58, .iaddr none 3 (.tmp 56) (.tmp 57), none⟩, 0),
                (⟨some 59, .load (some 3) (.tmp 58), none⟩, 0),
                (⟨some 60, .iaddr none 3 (.tmp 46) (.tmp 47), none⟩, 0),
                (⟨none, .store 3 (.tmp 60) (.tmp 55), none⟩, 0),
                (⟨some 61, .iaddr none 3 (.tmp 48) (.tmp 50), none⟩, 0),
                (⟨none, .store 3 (.tmp 61) (.tmp 59), none⟩, 0)])
             (.seq (.seq (.ops [⟨some 62, .mov (.tmp 9), none⟩,
                  ⟨some 63, .mov (.tmp 1), none⟩,
                  ⟨some 64, .bin .sub .no (.tmp 62) (.tmp 63), none⟩,
                  ⟨some 65, .bin .geq .no (.tmp 64) (.lit (.int .i64 2)), none⟩])
               (.cond (.tmp 65) (.seq (.ops [⟨some 66, .mov (.tmp 9), none⟩,
                    ⟨some 67, .bin .sub .no (.tmp 66) (.lit (.int .i64 1)), none⟩,
                    ⟨some 11, .mov (.tmp 67), none⟩])
                 (.block 4 (.loop (.seq (.seq (.ops [⟨some 68, .mov (.tmp 11), none⟩,
                        ⟨some 69, .bin .geq .no (.tmp 68) (.lit (.int .i64 1)), none⟩])
                     (.cond (.tmp 69) .skip (.exit 4)))
                    (.seq (.block 5 (.seq (.seq (.draw [(⟨some 72, .mov (.tmp 3), none⟩, 0),
                           (⟨some 73, .mov (.tmp 0), none⟩, 0),
                           (⟨some 74, .mov (.tmp 11), none⟩, 0),
                           (⟨some 75, .iaddr none 3 (.tmp 73) (.tmp 74), none⟩, 0),
                           (⟨some 76, .load (some 3) (.tmp 75), none⟩, 0),
                           (⟨some 77, .mov (.tmp 0), none⟩, 0),
                           (⟨some 78, .mov (.tmp 11), none⟩, 0),
                           (⟨some 79, .bin .sub .no (.tmp 78) (.lit (.int .i64 1)), none⟩, 0),
                           (⟨some 80, .iaddr none 3 (.tmp 77) (.tmp 79), none⟩, 0),
                           (⟨some 81, .load (some 3) (.tmp 80), none⟩, 0),
                           (⟨some 82, .call (.tmp 72) [.tmp 76, .tmp 81], none⟩, 0),
                           (⟨some 83, .bin .lss .no (.tmp 82) (.lit (.int .i64 0)), none⟩, 0),
                           (⟨some 84, .un .not (.tmp 83), none⟩, 0)])
                        (.cond (.tmp 84) (.exit 4) .skip))
                       (.draw [(⟨some 85, .mov (.tmp 0), none⟩, 0),
                          (⟨some 86, .mov (.tmp 11), none⟩, 0),
                          (⟨some 87, .mov (.tmp 0), none⟩, 0),
                          (⟨some 88, .mov (.tmp 11), none⟩, 0),
                          (⟨some 89, .bin .sub .no (.tmp 88) (.lit (.int .i64 1)), none⟩, 0),
                          (⟨some 90, .mov (.tmp 0), none⟩, 0),
                          (⟨some 91, .mov (.tmp 11), none⟩, 0),
                          (⟨some 92, .bin .sub .no (.tmp 91) (.lit (.int .i64 1)), none⟩, 0),
                          (⟨some 93, .iaddr none 3 (.tmp 90) (.tmp 92), none⟩, 0),
                          (⟨some 94, .load (some 3) (.tmp 93), none⟩, 0),
                          (⟨some 95, .mov (.tmp 0), none⟩, 0),
                          (⟨some 96, .mov (.tmp 11), none⟩, 0),
                          (⟨some 97, .iaddr none 3 (.tmp 95) (.tmp 96), none⟩, 0),
                          (⟨some 98, .load (some 3) (.tmp 97), none⟩, 0),
                          (⟨some 99, .iaddr none 3 (.tmp 85) (.tmp 86), none⟩, 0),
                          (⟨none, .store 3 (.tmp 99) (.tmp 94), none⟩, 0),
                          (⟨some 100, .iaddr none 3 (.tmp 87) (.tmp 89), none⟩, 0),
                          (⟨none, .store 3 (.tmp 100) (.tmp 98), none⟩, 0)])))
                     (.ops [⟨some 70, .mov (.tmp 11), none⟩,
                        ⟨some 71, .bin .sub .no (.tmp 70) (.lit (.int .i64 1)), none⟩,
                        ⟨some 11, .mov (.tmp 71), none⟩])))))) .skip))
              (.seq (.ops [⟨some 101, .mov (.tmp 2), none⟩,
                  ⟨some 102, .mov (.tmp 9), none⟩,
                  ⟨some 103, .bin .sub .no (.tmp 101) (.tmp 102), none⟩,
                  ⟨some 104, .bin .geq .no (.tmp 103) (.lit (.int .i64 2)), none⟩])
               (.cond (.tmp 104) (.seq (.ops [⟨some 105, .mov (.tmp 9), none⟩,
                    ⟨some 106, .bin .add .no (.tmp 105) (.lit (.int .i64 1)), none⟩,
                    ⟨some 12, .mov (.tmp 106), none⟩])
                 (.block 6 (.loop (.seq (.seq (.ops [⟨some 107, .mov (.tmp 12), none⟩,
                        ⟨some 108, .mov (.tmp 2), none⟩,
                        ⟨some 109, .bin .lss .no (.tmp 107) (.tmp 108), none⟩])
                     (.cond (.tmp 109) .skip (.exit 6)))
                    (.seq (.block 7 (.seq (.seq (.draw [(⟨some 112, .mov (.tmp 3), none⟩, 0),
                           (⟨some 113, .mov (.tmp 0), none⟩, 0),
                           (⟨some 114, .mov (.tmp 12), none⟩, 0),
                           (⟨some 115, .iaddr none 3 (.tmp 113) (.tmp 114), none⟩, 0),
                           (⟨some 116, .load (some 3) (.tmp 115), none⟩, 0),
                           (⟨some 117, .mov (.tmp 0), none⟩, 0),
                           (⟨some 118, .mov (.tmp 12), none⟩, 0),
                           (⟨some 119, .bin .sub .no (.tmp 118) (.lit (.int .i64 1)), none⟩, 0),
                           (⟨some 120, .iaddr none 3 (.tmp 117) (.tmp 119), none⟩, 0),
                           (⟨some 121, .load (some 3) (.tmp 120), none⟩, 0),
                           (⟨some 122, .call (.tmp 112) [.tmp 116, .tmp 121], none⟩, 0),
                           (⟨some 123, .bin .lss .no (.tmp 122) (.lit (.int .i64 0)), none⟩, 0),
                           (⟨some 124, .un .not (.tmp 123), none⟩, 0)])
                        (.cond (.tmp 124) (.exit 6) .skip))
                       (.draw [(⟨some 125, .mov (.tmp 0), none⟩, 0),
                          (⟨some 126, .mov (.tmp 12), none⟩, 0),
                          (⟨some 127, .mov (.tmp 0), none⟩, 0),
                          (⟨some 128, .mov (.tmp 12), none⟩, 0),
                          (⟨some 129, .bin .sub .no (.tmp 128) (.lit (.int .i64 1)), none⟩, 0),
                          (⟨some 130, .mov (.tmp 0), none⟩, 0),
                          (⟨some 131, .mov (.tmp 12), none⟩, 0),
                          (⟨some 132, .bin .sub .no (.tmp 131) (.lit (.int .i64 1)), none⟩, 0),
                          (⟨some 133, .iaddr none 3 (.tmp 130) (.tmp 132), none⟩, 0),
                          (⟨some 134, .load (some 3) (.tmp 133), none⟩, 0),
                          (⟨some 135, .mov (.tmp 0), none⟩, 0),
                          (⟨some 136, .mov (.tmp 12), none⟩, 0),
                          (⟨some 137, .iaddr none 3 (.tmp 135) (.tmp 136), none⟩, 0),
                          (⟨some 138, .load (some 3) (.tmp 137), none⟩, 0),
                          (⟨some 139, .iaddr none 3 (.tmp 125) (.tmp 126), none⟩, 0),
                          (⟨none, .store 3 (.tmp 139) (.tmp 134), none⟩, 0),
                          (⟨some 140, .iaddr none 3 (.tmp 127) (.tmp 129), none⟩, 0),
                          (⟨none, .store 3 (.tmp 140) (.tmp 138), none⟩, 0)])))
                     (.ops [⟨some 110, .mov (.tmp 12), none⟩,
                        ⟨some 111, .bin .add .no (.tmp 110) (.lit (.int .i64 1)), none⟩,
                        ⟨some 12, .mov (.tmp 111), none⟩])))))) .skip))))))))
        (.ops [⟨some 17, .mov (.tmp 10), none⟩,
           ⟨some 18, .bin .add .no (.tmp 17) (.lit (.int .i64 1)), none⟩,
           ⟨some 10, .mov (.tmp 18), none⟩]))))))
   (.seq (.ops [⟨some 8, .mov (.lit (.bool false)), none⟩])
    .ret)))⟩
theorem ok99 : FnOK Go.Proofs.Try.prog 99 af99 := ⟨Go.Proofs.Try.f99, Go.Proofs.Try.func99, by kernel_rfl, by kernel_rfl⟩
def af100 : AFn := ⟨90, [.tmp 10], .seq (.ops [⟨some 10, .mov (.lit (.int .i64 0)), none⟩])
 (.seq (.draw [(⟨some 13, .mov (.tmp 0), none⟩, 0),
     (⟨some 14, .mov (.tmp 1), none⟩, 0),
     (⟨some 15, .mov (.tmp 0), none⟩, 0),
     (⟨some 16, .mov (.tmp 3), none⟩, 0),
     (⟨some 17, .mov (.tmp 0), none⟩, 0),
     (⟨some 18, .mov (.tmp 3), none⟩, 0),
     (⟨some 19, .iaddr none 3 (.tmp 17) (.tmp 18), none⟩, 0),
     (⟨some 20, .load (some 3) (.tmp 19), none⟩, 0),
     (⟨some 21, .mov (.tmp 0), none⟩, 0),
     (⟨some 22, .mov (.tmp 1), none⟩, 0),
     (⟨some 23, .iaddr none 3 (.tmp 21) (.tmp 22), none⟩, 0),
     (⟨some 24, .load (some 3) (.tmp 23), none⟩, 0),
     (⟨some 25, .iaddr none 3 (.tmp 13) (.tmp 14), none⟩, 0),
     (⟨none, .store 3 (.tmp 25) (.tmp 20), none⟩, 0),
     (⟨some 26, .iaddr none 3 (.tmp 15) (.tmp 16), none⟩, 0),
     (⟨none, .store 3 (.tmp 26) (.tmp 24), none⟩, 0)])
  (.seq (.ops [⟨some 27, .mov (.tmp 1), none⟩,
      ⟨some 28, .bin .add .no (.tmp 27) (.lit (.int .i64 1)), none⟩,
      ⟨some 29, .mov (.tmp 2), none⟩,
      ⟨some 30, .bin .sub .no (.tmp 29) (.lit (.int .i64 1)), none⟩,
      ⟨some 11, .mov (.tmp 28), none⟩,
      ⟨some 12, .mov (.tmp 30), none⟩])
   (.seq (.block 0 (.loop (.block 1 (.seq (.block 2 (.loop (.seq (.seq (.draw [(⟨some 31, .mov (.tmp 11), none⟩, 0),
               (⟨some 32, .mov (.tmp 12), none⟩, 0),
               (⟨some 33, .bin .leq .no (.tmp 31) (.tmp 32), none⟩, 0),
               (⟨some 34, .mov (.tmp 33), none⟩, 0),
               (⟨some 35, .mov (.tmp 4), some (34, true)⟩, 0),
               (⟨some 36, .mov (.tmp 0), some (34, true)⟩, 0),
               (⟨some 37, .mov (.tmp 1), some (34, true)⟩, 0),
               (⟨some 38, .iaddr none 3 (.tmp 36) (.tmp 37), some (34, true)⟩, 0),
               (⟨some 39, .load (some 3) (.tmp 38), some (34, true)⟩, 0),
               (⟨some 40, .mov (.tmp 0), some (34, true)⟩, 0),
               (⟨some 41, .mov (.tmp 11), some (34, true)⟩, 0),
               (⟨some 42, .iaddr none 3 (.tmp 40) (.tmp 41), some (34, true)⟩, 0),
               (⟨some 43, .load (some 3) (.tmp 42), some (34, true)⟩, 0),
               (⟨some 44, .call (.tmp 35) [.tmp 39, .tmp 43], some (34, true)⟩, 0),
               (⟨some 45, .bin .lss .no (.tmp 44) (.lit (.int .i64 0)), some (34, true)⟩, 0),
               (⟨some 46, .un .not (.tmp 45), some (34, true)⟩, 0),
               (⟨some 47, .pick (.tmp 34) (.tmp 46) (.lit (.bool false)), none⟩, 0)])
            (.cond (.tmp 47) .skip (.exit 2)))
           (.block 3 (.ops [⟨some 48, .mov (.tmp 11), none⟩,
               ⟨some 49, .bin .add .no (.tmp 48) (.lit (.int .i64 1)), none⟩,
               ⟨some 11, .mov (.tmp 49), none⟩])))))
        (.seq (.block 4 (.loop (.seq (.seq (.draw [(⟨some 50, .mov (.tmp 11), none⟩, 0),
                (⟨some 51, .mov (.tmp 12), none⟩, 0),
                (⟨some 52, .bin .leq .no (.tmp 50) (.tmp 51), none⟩, 0),
                (⟨some 53, .mov (.tmp 52), none⟩, 0),
                (⟨some 54, .mov (.tmp 4), some (53, true)⟩, 0),
                (⟨some 55, .mov (.tmp 0), some (53, true)⟩, 0),
                (⟨some 56, .mov (.tmp 1), some (53, true)⟩, 0),
                (⟨some 57, .iaddr none 3 (.tmp 55) (.tmp 56), some (53, true)⟩, 0),
                (⟨some 58, .load (some 3) (.tmp 57), some (53, true)⟩, 0),
                (⟨some 59, .mov (.tmp 0), some (53, true)⟩, 0),
                (⟨some 60, .mov (.tmp 12), some (53, true)⟩, 0),
                (⟨some 61, .iaddr none 3 (.tmp 59) (.tmp 60), some (53, true)⟩, 0),
                (⟨some 62, .load (some 3) (.tmp 61), some (53, true)⟩, 0),
                (⟨some 63, .call (.tmp 54) [.tmp 58, .tmp 62], some (53, true)⟩, 0),
                (⟨some 64, .bin .lss .no (.tmp 63) (.lit (.int .i64 0)), some (53, true)⟩, 0),
                (⟨some 65, .pick (.tmp 53) (.tmp 64) (.lit (.bool false)), none⟩, 0)])
             (.cond (.tmp 65) .skip (.exit 4)))
            (.block 5 (.ops [⟨some 66, .mov (.tmp 12), none⟩,
                ⟨some 67, .bin .sub .no (.tmp 66) (.lit (.int .i64 1)), none⟩,
                ⟨some 12, .mov (.tmp 67), none⟩])))))
         (.seq (.seq (.ops [⟨some 68, .mov (.tmp 11), none⟩,
              ⟨some 69, .mov (.tmp 12), none⟩,
              ⟨some 70, .bin .gtr .no (.tmp 68) (.tmp 69), none⟩])
           (.cond (.tmp 70) (.exit 0) .skip))
          (.seq (.draw [(⟨some 71, .mov (.tmp 0), none⟩, 0),
              (⟨some 72, .mov (.tmp 11), none⟩, 0),
              (⟨some 73, .mov (.tmp 0), none⟩, 0),
              (⟨some 74, .mov (.tmp 12), none⟩, 0),
              (⟨some 75, .mov (.tmp 0), none⟩, 0),
              (⟨some 76, .mov (.tmp 12), none⟩, 0),
              (⟨some 77, .iaddr none 3 (.tmp 75) (.tmp 76), none⟩, 0),
              (⟨some 78, .load (some 3) (.tmp 77), none⟩, 0),
              (⟨some 79, .mov (.tmp 0), none⟩, 0),
              (⟨some 80, .mov (.tmp 11), none⟩, 0),
              (⟨some 81, .iaddr none 3 (.tmp 79) (.tmp 80), none⟩, 0),
              (⟨some 82, .load (some 3) (.tmp 81), none⟩, 0),
              (⟨some 83, .iaddr none 3 (.tmp 71) (.tmp 72), none⟩, 0),
              (⟨none, .store 3 (.tmp 83) (.tmp 78), none⟩, 0),
              (⟨some 84, .iaddr none 3 (.tmp 73) (.tmp 74), none⟩, 0),
              (⟨none, .store 3 (.tmp 84) (.tmp 82), none⟩, 0)])
           (.seq (.ops [⟨some 85, .mov (.tmp 11), none⟩,
               ⟨some 86, .bin .add .no (.tmp 85) (.lit (.int .i64 1)), none⟩,
               ⟨some 11, .mov (.tmp 86), none⟩])
            (.ops [⟨some 87, .mov (.tmp 12), none⟩,
               ⟨some 88, .bin .sub .no (.tmp 87) (.lit (.int .i64 1)), none⟩,
               ⟨some 12, .mov (.tmp 88), none⟩])))))))))
    (.seq (.ops [⟨some 89, .mov (.tmp 11), none⟩,
        ⟨some 10, .mov (.tmp 89), none⟩])
     .ret))))⟩
theorem ok100 : FnOK Go.Proofs.Try.prog 100 af100 := ⟨Go.Proofs.Try.f100, Go.Proofs.Try.func100, by kernel_rfl, by kernel_rfl⟩
def af101 : AFn := ⟨178, [.tmp 10, .tmp 11], .seq (.ops [⟨some 10, .mov (.lit (.int .i64 0)), none⟩,
    ⟨some 11, .mov (.lit (.bool false)), none⟩])
 (.seq (.draw [(⟨some 14, .mov (.tmp 0), none⟩, 0),
     (⟨some 15, .mov (.tmp 1), none⟩, 0),
     (⟨some 16, .mov (.tmp 0), none⟩, 0),
     (⟨some 17, .mov (.tmp 3), none⟩, 0),
     (⟨some 18, .mov (.tmp 0), none⟩, 0),
     (⟨some 19, .mov (.tmp 3), none⟩, 0),
     (⟨some 20, .iaddr none 3 (.tmp 18) (.tmp 19), none⟩, 0),
     (⟨some 21, .load (some 3) (.tmp 20), none⟩, 0),
     (⟨some 22, .mov (.tmp 0), none⟩, 0),
     (⟨some 23, .mov (.tmp 1), none⟩, 0),
     (⟨some 24, .iaddr none 3 (.tmp 22) (.tmp 23), none⟩, 0),
     (⟨some 25, .load (some 3) (.tmp 24), none⟩, 0),
     (⟨some 26, .iaddr none 3 (.tmp 14) (.tmp 15), none⟩, 0),
     (⟨none, .store 3 (.tmp 26) (.tmp 21), none⟩, 0),
     (⟨some 27, .iaddr none 3 (.tmp 16) (.tmp 17), none⟩, 0),
     (⟨none, .store 3 (.tmp 27) (.tmp 25), none⟩, 0)])
  (.seq (.ops [⟨some 28, .mov (.tmp 1), none⟩,
      ⟨some 29, .bin .add .no (.tmp 28) (.lit (.int .i64 1)), none⟩,
      ⟨some 30, .mov (.tmp 2), none⟩,
      ⟨some 31, .bin .sub .no (.tmp 30) (.lit (.int .i64 1)), none⟩,
      ⟨some 12, .mov (.tmp 29), none⟩,
      ⟨some 13, .mov (.tmp 31), none⟩])
   (.seq (.block 0 (.loop (.seq (.seq (.draw [(⟨some 32, .mov (.tmp 12), none⟩, 0),
           (⟨some 33, .mov (.tmp 13), none⟩, 0),
           (⟨some 34, .bin .leq .no (.tmp 32) (.tmp 33), none⟩, 0),
           (⟨some 35, .mov (.tmp 34), none⟩, 0),
           (⟨some 36, .mov (.tmp 4), some (35, true)⟩, 0),
           (⟨some 37, .mov (.tmp 0), some (35, true)⟩, 0),
           (⟨some 38, .mov (.tmp 12), some (35, true)⟩, 0),
           (⟨some 39, .iaddr none 3 (.tmp 37) (.tmp 38), some (35, true)⟩, 0),
           (⟨some 40, .load (some 3) (.tmp 39), some (35, true)⟩, 0),
           (⟨some 41, .mov (.tmp 0), some (35, true)⟩, 0),
           (⟨some 42, .mov (.tmp 1), some (35, true)⟩, 0),
           (⟨some 43, .iaddr none 3 (.tmp 41) (.tmp 42), some (35, true)⟩, 0),
           (⟨some 44, .load (some 3) (.tmp 43), some (35, true)⟩, 0),
           (⟨some 45, .call (.tmp 36) [.tmp 40, .tmp 44], some (35, true)⟩, 0),
           (⟨some 46, .bin .lss .no (.tmp 45) (.lit (.int .i64 0)), some (35, true)⟩, 0),
           (⟨some 47, .pick (.tmp 35) (.tmp 46) (.lit (.bool false)), none⟩, 0)])
        (.cond (.tmp 47) .skip (.exit 0)))
       (.block 1 (.ops [⟨some 48, .mov (.tmp 12), none⟩,
           ⟨some 49, .bin .add .no (.tmp 48) (.lit (.int .i64 1)), none⟩,
           ⟨some 12, .mov (.tmp 49), none⟩])))))
    (.seq (.block 2 (.loop (.seq (.seq (.draw [(⟨some 50, .mov (.tmp 12), none⟩, 0),
            (⟨some 51, .mov (.tmp 13), none⟩, 0),
            (⟨some 52, .bin .leq .no (.tmp 50) (.tmp 51), none⟩, 0),
            (⟨some 53, .mov (.tmp 52), none⟩, 0),
            (⟨some 54, .mov (.tmp 4), some (53, true)⟩, 0),
            (⟨some 55, .mov (.tmp 0), some (53, true)⟩, 0),
            (⟨some 56, .mov (.tmp 13), some (53, true)⟩, 0),
            (⟨some 57, .iaddr none 3 (.tmp 55) (.tmp 56), some (53, true)⟩, 0),
            (⟨some 58, .load (some 3) (.tmp 57), some (53, true)⟩, 0),
            (⟨some 59, .mov (.tmp 0), some (53, true)⟩, 0),
            (⟨some 60, .mov (.tmp 1), some (53, true)⟩, 0),
            (⟨some 61, .iaddr none 3 (.tmp 59) (.tmp 60), some (53, true)⟩, 0),
            (⟨some 62, .load (some 3) (.tmp 61), some (53, true)⟩, 0),
            (⟨some 63, .call (.tmp 54) [.tmp 58, .tmp 62], some (53, true)⟩, 0),
            (⟨some 64, .bin .lss .no (.tmp 63) (.lit (.int .i64 0)), some (53, true)⟩, 0),
            (⟨some 65, .un .not (.tmp 64), some (53, true)⟩, 0),
            (⟨some 66, .pick (.tmp 53) (.tmp 65) (.lit (.bool false)), none⟩, 0)])
         (.cond (.tmp 66) .skip (.exit 2)))
        (.block 3 (.ops [⟨some 67, .mov (.tmp 13), none⟩,
            ⟨some 68, .bin .sub .no (.tmp 67) (.lit (.int .i64 1)), none⟩,
            ⟨some 13, .mov (.tmp 68), none⟩])))))
     (.seq (.seq (.ops [⟨some 69, .mov (.tmp 12), none⟩,
          ⟨some 70, .mov (.tmp 13), none⟩,
          ⟨some 71, .bin .gtr .no (.tmp 69) (.tmp 70), none⟩])
       (.cond (.tmp 71) (.seq (.draw [(⟨some 72, .mov (.tmp 0), none⟩, 0),
            (⟨some 73, .mov (.tmp 13), none⟩, 0),
            (⟨some 74, .mov (.tmp 0), none⟩, 0),
            (⟨some 75, .mov (.tmp 1), none⟩, 0),
            (⟨some 76, .mov (.tmp 0), none⟩, 0),
            (⟨some 77, .mov (.tmp 1), none⟩, 0),
            (⟨some 78, .iaddr none 3 (.tmp 76) (.tmp 77), none⟩, 0),
            (⟨some 79, .load (some 3) (.tmp 78), none⟩, 0),
            (⟨some 80, .mov (.tmp 0), none⟩, 0),
            (⟨some 81, .mov (.tmp 13), none⟩, 0),
            (⟨some 82, .iaddr none 3 (.tmp 80) (.tmp 81), none⟩, 0),
            (⟨some 83, .load (some 3) (.tmp 82), none⟩, 0),
            (⟨some 84, .iaddr none 3 (.tmp 72) (.tmp 73), none⟩, 0),
            (⟨none, .store 3 (.tmp 84) (.tmp 79), none⟩, 0),
            (⟨some 85, .iaddr none 3 (.tmp 74) (.tmp 75), none⟩, 0),
            (⟨none, .store 3 (.tmp 85) (.tmp 83), none⟩, 0)])
         (.seq (.ops [⟨some 86, .mov (.tmp 13), none⟩,
             ⟨some 10, .mov (.tmp 86), none⟩,
             ⟨some 11, .mov (.lit (.bool true)), none⟩])
          .ret)) .skip))
      (.seq (.draw [(⟨some 87, .mov (.tmp 0), none⟩, 0),
          (⟨some 88, .mov (.tmp 12), none⟩, 0),
          (⟨some 89, .mov (.tmp 0), none⟩, 0),
          (⟨some 90, .mov (.tmp 13), none⟩, 0),
          (⟨some 91, .mov (.tmp 0), none⟩, 0),
          (⟨some 92, .mov (.tmp 13), none⟩, 0),
          (⟨some 93, .iaddr none 3 (.tmp 91) (.tmp 92), none⟩, 0),
          (⟨some 94, .load (some 3) (.tmp 93), none⟩, 0),
          (⟨some 95, .mov (.tmp 0), none⟩, 0),
          (⟨some 96, .mov (.tmp 12), none⟩, 0),
          (⟨some 97, .iaddr none 3 (.tmp 95) (.tmp 96), none⟩, 0),
          (⟨some 98, .load (some 3) (.tmp 97), none⟩, 0),
          (⟨some 99, .iaddr none 3 (.tmp 87) (.tmp 88), none⟩, 0),
          (⟨none, .store 3 (.tmp 99) (.tmp 94), none⟩, 0),
          (⟨some 100, .iaddr none 3 (.tmp 89) (.tmp 90), none⟩, 0),
          (⟨none, .store 3 (.tmp 100) (.tmp 98), none⟩, 0)])
       (.seq (.ops [⟨some 101, .mov (.tmp 12), none⟩,
           ⟨some 102, .bin .add .no (.tmp 101) (.lit (.int .i64 1)), none⟩,
           ⟨some 12, .mov (.tmp 102), none⟩])
        (.seq (.ops [⟨some 103, .mov (.tmp 13), none⟩,
            ⟨some 104, .bin .sub .no (.tmp 103) (.lit (.int .i64 1)), none⟩,
            ⟨some 13, .mov (.tmp 104), none⟩])
         (.seq (.block 4 (.loop (.block 5 (.seq (.block 6 (.loop (.seq (.seq (.draw [(⟨some 105, .mov (.tmp 12), none⟩, 0),
                     (⟨some 106, .mov (.tmp 13), none⟩, 0),
                     (⟨some 107, .bin .leq .no (.tmp 105) (.tmp 106), none⟩, 0),
                     (⟨some 108, .mov (.tmp 107), none⟩, 0),
                     (⟨some 109, .mov (.tmp 4), some (108, true)⟩, 0),
                     (⟨some 110, .mov (.tmp 0), some (108, true)⟩, 0),
                     (⟨some 111, .mov (.tmp 12), some (108, true)⟩, 0),
                     (⟨some 112, .iaddr none 3 (.tmp 110) (.tmp 111), some (108, true)⟩, 0),
                     (⟨some 113, .load (some 3) (.tmp 112), some (108, true)⟩, 0),
                     (⟨some 114, .mov (.tmp 0), some (108, true)⟩, 0),
                     (⟨some 115, .mov (.tmp 1), some (108, true)⟩, 0),
                     (⟨some 116, .iaddr none 3 (.tmp 114) (.tmp 115), some (108, true)⟩, 0),
                     (⟨some 117, .load (some 3) (.tmp 116), some (108, true)⟩, 0),
                     (⟨some 118, .call (.tmp 109) [.tmp 113, .tmp 117], some (108, true)⟩, 0),
                     (⟨some 119, .bin .lss .no (.tmp 118) (.lit (.int .i64 0)), some (108, true)⟩, 0),
                     (⟨some 120, .pick (.tmp 108) (.tmp 119) (.lit (.bool false)), none⟩, 0)])
                  (.cond (.tmp 120) .skip (.exit 6)))
                 (.block 7 (.ops [⟨some 121, .mov (.tmp 12), none⟩,
                     ⟨some 122, .bin .add .no (.tmp 121) (.lit (.int .i64 1)), none⟩,
                     ⟨some 12, .mov (.tmp 122), none⟩])))))
              (.seq (.block 8 (.loop (.seq (.seq (.draw [(⟨some 123, .mov (.tmp 12), none⟩, 0),
                      (⟨some 124, .mov (.tmp 13), none⟩, 0),
                      (⟨some 125, .bin .leq .no (.tmp 123) (.tmp 124), none⟩, 0),
                      (⟨some 126, .mov (.tmp 125), none⟩, 0),
                      (⟨some 127, .mov (.tmp 4), some (126, true)⟩, 0),
                      (⟨some 128, .mov (.tmp 0), some (126, true)⟩, 0),
                      (⟨some 129, .mov (.tmp 13), some (126, true)⟩, 0),
                      (⟨some 130, .iaddr none 3 (.tmp 128) (.tmp 129), some (126, true)⟩, 0),
                      (⟨some 131, .load (some 3) (.tmp 130), some (126, true)⟩, 0),
                      (⟨some 132, .mov (.tmp 0), some (126, true)⟩, 0),
                      (⟨some 133, .mov (.tmp 1), some (126, true)⟩, 0),
                      (⟨some 134, .iaddr none 3 (.tmp 132) (.tmp 133), some (126, true)⟩, 0),
                      (⟨some 135, .load (some 3) (.tmp 134), some (126, true)⟩, 0),
                      (⟨some 136, .call (.tmp 127) [.tmp 131, .tmp 135], some (126, true)⟩, 0),
                      (⟨some 137, .bin .lss .no (.tmp 136) (.lit (.int .i64 0)), some (126, true)⟩, 0),
                      (⟨some 138, .un .not (.tmp 137), some (126, true)⟩, 0),
                      (⟨some 139, .pick (.tmp 126) (.tmp 138) (.lit (.bool false)), none⟩, 0)])
                   (.cond (.tmp 139) .skip (.exit 8)))
                  (.block 9 (.ops [⟨some 140, .mov (.tmp 13), none⟩,
                      ⟨some 141, .bin .sub .no (.tmp 140) (.lit (.int .i64 1)), none⟩,
                      ⟨some 13, .mov (.tmp 141), none⟩])))))
               (.seq (.seq (.ops [⟨some 142, .mov (.tmp 12), none⟩,
                    ⟨some 143, .mov (.tmp 13), none⟩,
                    ⟨some 144, .bin .gtr .no (.tmp 142) (.tmp 143), none⟩])
                 (.cond (.tmp 144) (.exit 4) .skip))
                (.seq (.draw [(⟨some 145, .mov (.tmp 0), none⟩, 0),
                    (⟨some 146, .mov (.tmp 12), none⟩, 0),
                    (⟨some 147, .mov (.tmp 0), none⟩, 0),
                    (⟨some 148, .mov (.tmp 13), none⟩, 0),
                    (⟨some 149, .mov (.tmp 0), none⟩, 0),
                    (⟨some 150, .mov (.tmp 13), none⟩, 0),
                    (⟨some 151, .iaddr none 3 (.tmp 149) (.tmp 150), none⟩, 0),
                    (⟨some 152, .load (some 3) (.tmp 151), none⟩, 0),
                    (⟨some 153, .mov (.tmp 0), none⟩, 0),
                    (⟨some 154, .mov (.tmp 12), none⟩, 0),
                    (⟨some 155, .iaddr none 3 (.tmp 153) (.tmp 154), none⟩, 0),
                    (⟨some 156, .load (some 3) (.tmp 155), none⟩, 0),
                    (⟨some 157, .iaddr none 3 (.tmp 145) (.tmp 146), none⟩, 0),
                    (⟨none, .store 3 (.tmp 157) (.tmp 152), none⟩, 0),
                    (⟨some 158, .iaddr none 3 (.tmp 147) (.tmp 148), none⟩, 0),
                    (⟨none, .store 3 (.tmp 158) (.tmp 156), none⟩, 0)])
                 (.seq (.ops [⟨some 159, .mov (.tmp 12), none⟩,
                     ⟨some 160, .bin .add .no (.tmp 159) (.lit (.int .i64 1)), none⟩,
                     ⟨some 12, .mov (.tmp 160), none⟩])
                  (.ops [⟨some 161, .mov (.tmp 13), none⟩,
                     ⟨some 162, .bin .sub .no (.tmp 161) (.lit (.int .i64 1)), none⟩,
                     ⟨some 13, .mov (.tmp 162), none⟩])))))))))
          (.seq (.draw [(⟨some 163, .mov (.tmp 0), none⟩, 0),
              (⟨some 164, .mov (.tmp 13), none⟩, 0),
              (⟨some 165, .mov (.tmp 0), none⟩, 0),
              (⟨some 166, .mov (.tmp 1), none⟩, 0),
              (⟨some 167, .mov (.tmp 0), none⟩, 0),
              (⟨some 168, .mov (.tmp 1), none⟩, 0),
              (⟨some 169, .iaddr none 3 (.tmp 167) (.tmp 168), none⟩, 0),
              (⟨some 170, .load (some 3) (.tmp 169), none⟩, 0),
              (⟨some 171, .mov (.tmp 0), none⟩, 0),
              (⟨some 172, .mov (.tmp 13), none⟩, 0),
              (⟨some 173, .iaddr none 3 (.tmp 171) (.tmp 172), none⟩, 0),
              (⟨some 174, .load (some 3) (.tmp 173), none⟩, 0),
              (⟨some 175, .iaddr none 3 (.tmp 163) (.tmp 164), none⟩, 0),
              (⟨none, .store 3 (.tmp 175) (.tmp 170), none⟩, 0),
              (⟨some 176, .iaddr none 3 (.tmp 165) (.tmp 166), none⟩, 0),
              (⟨none, .store 3 (.tmp 176) (.tmp 174), none⟩, 0)])
           (.seq (.ops [⟨some 177, .mov (.tmp 13), none⟩,
               ⟨some 10, .mov (.tmp 177), none⟩,
               ⟨some 11, .mov (.lit (.bool false)), none⟩])
            .ret)))))))))))⟩
theorem ok101 : FnOK Go.Proofs.Try.prog 101 af101 := ⟨Go.Proofs.Try.f101, Go.Proofs.Try.func101, by kernel_rfl, by kernel_rfl⟩
def af102 : AFn := ⟨19, [.tmp 2], .seq (.ops [⟨some 2, .mov (.lit (.int .i64 0)), none⟩])
 (.seq (.seq (.ops [⟨some 3, .mov (.tmp 0), none⟩,
      ⟨some 4, .bin .geq .no (.tmp 3) (.lit (.int .u32 65536)), none⟩])
   (.cond (.tmp 4) (.seq (.ops [⟨some 5, .mov (.tmp 0), none⟩,
        ⟨some 6, .bin .shr .no (.tmp 5) (.lit (.int .u64 16)), none⟩,
        ⟨some 0, .mov (.tmp 6), none⟩])
     (.ops [⟨some 2, .mov (.lit (.int .i64 16)), none⟩])) .skip))
  (.seq (.seq (.ops [⟨some 7, .mov (.tmp 0), none⟩,
       ⟨some 8, .bin .geq .no (.tmp 7) (.lit (.int .u32 256)), none⟩])
    (.cond (.tmp 8) (.seq (.ops [⟨some 9, .mov (.tmp 0), none⟩,
         ⟨some 10, .bin .shr .no (.tmp 9) (.lit (.int .u64 8)), none⟩,
         ⟨some 0, .mov (.tmp 10), none⟩])
      (.ops [⟨some 11, .mov (.tmp 2), none⟩,
         ⟨some 12, .bin .add .no (.tmp 11) (.lit (.int .i64 8)), none⟩,
         ⟨some 2, .mov (.tmp 12), none⟩])) .skip))
   (.seq (.ops [⟨some 13, .mov (.tmp 2), none⟩,
       ⟨some 14, .mov (.tmp 0), none⟩,
       ⟨some 15, .toInt .u8 (.tmp 14), none⟩,
       ⟨some 16, .indexS (.lit (.str [0, 1, 2, 2, 3, 3, 3, 3, 4, 4, 4, 4, 4, 4, 4, 4, 5, 5, 5, 5, 5, 5, 5, 5, 5, 5, 5, 5, 5, 5, 5, 5, 6, 6, 6, 6, 6, 6, 6, 6, 6, 6, 6, 6, 6, 6, 6, 6, 6, 6, 6, 6, 6, 6, 6, 6, 6, 6, 6, 6, 6, 6, 6, 6, 7, 7, 7, 7, 7, 7, 7, 7, 7, 7, 7, 7, 7, 7, 7, 7, 7, 7, 7, 7, 7, 7, 7, 7, 7, 7, 7, 7, 7, 7, 7, 7, 7, 7, 7, 7, 7, 7, 7, 7, 7, 7, 7, 7, 7, 7, 7, 7, 7, 7, 7, 7, 7, 7, 7, 7, 7, 7, 7, 7, 7, 7, 7, 7, 8, 8, 8, 8, 8, 8, 8, 8, 8, 8, 8, 8, 8, 8, 8, 8, 8, 8, 8, 8, 8, 8, 8, 8, 8, 8, 8, 8, 8, 8, 8, 8, 8, 8, 8, 8, 8, 8, 8, 8, 8, 8, 8, 8, 8, 8, 8, 8, 8, 8, 8, 8, 8, 8, 8, 8, 8, 8, 8, 8, 8, 8, 8, 8, 8, 8, 8, 8, 8, 8, 8, 8, 8, 8, 8, 8, 8, 8, 8, 8, 8, 8, 8, 8, 8, 8, 8, 8, 8, 8, 8, 8, 8, 8, 8, 8, 8, 8, 8, 8, 8, 8, 8, 8, 8, 8, 8, 8, 8, 8, 8, 8, 8, 8, 8, 8, 8, 8, 8, 8, 8, 8, 8, 8, 8, 8, 8, 8])) (.tmp 15), none⟩,
       ⟨some 17, .toInt .i64 (.tmp 16), none⟩,
       ⟨some 18, .bin .add .no (.tmp 13) (.tmp 17), none⟩,
       ⟨some 2, .mov (.tmp 18), none⟩])
    .ret)))⟩
theorem ok102 : FnOK Go.Proofs.Try.prog 102 af102 := ⟨Go.Proofs.Try.f102, Go.Proofs.Try.func102, by kernel_rfl, by kernel_rfl⟩
def af103 : AFn := ⟨25, [.tmp 2], .seq (.ops [⟨some 2, .mov (.lit (.int .i64 0)), none⟩])
 (.seq (.seq (.ops [⟨some 3, .mov (.tmp 0), none⟩,
      ⟨some 4, .bin .geq .no (.tmp 3) (.lit (.int .u64 4294967296)), none⟩])
   (.cond (.tmp 4) (.seq (.ops [⟨some 5, .mov (.tmp 0), none⟩,
        ⟨some 6, .bin .shr .no (.tmp 5) (.lit (.int .u64 32)), none⟩,
        ⟨some 0, .mov (.tmp 6), none⟩])
     (.ops [⟨some 2, .mov (.lit (.int .i64 32)), none⟩])) .skip))
  (.seq (.seq (.ops [⟨some 7, .mov (.tmp 0), none⟩,
       ⟨some 8, .bin .geq .no (.tmp 7) (.lit (.int .u64 65536)), none⟩])
    (.cond (.tmp 8) (.seq (.ops [⟨some 9, .mov (.tmp 0), none⟩,
         ⟨some 10, .bin .shr .no (.tmp 9) (.lit (.int .u64 16)), none⟩,
         ⟨some 0, .mov (.tmp 10), none⟩])
      (.ops [⟨some 11, .mov (.tmp 2), none⟩,
         ⟨some 12, .bin .add .no (.tmp 11) (.lit (.int .i64 16)), none⟩,
         ⟨some 2, .mov (.tmp 12), none⟩])) .skip))
   (.seq (.seq (.ops [⟨some 13, .mov (.tmp 0), none⟩,
        ⟨some 14, .bin .geq .no (.tmp 13) (.lit (.int .u64 256)), none⟩])
     (.cond (.tmp 14) (.seq (.ops [⟨some 15, .mov (.tmp 0), none⟩,
          ⟨some 16, .bin .shr .no (.tmp 15) (.lit (.int .u64 8)), none⟩,
          ⟨some 0, .mov (.tmp 16), none⟩])
       (.ops [⟨some 17, .mov (.tmp 2), none⟩,
          ⟨some 18, .bin .add .no (.tmp 17) (.lit (.int .i64 8)), none⟩,
          ⟨some 2, .mov (.tmp 18), none⟩])) .skip))
    (.seq (.ops [⟨some 19, .mov (.tmp 2), none⟩,
        ⟨some 20, .mov (.tmp 0), none⟩,
        ⟨some 21, .toInt .u8 (.tmp 20), none⟩,
        ⟨some 22, .indexS (.lit (.str [0, 1, 2, 2, 3, 3, 3, 3, 4, 4, 4, 4, 4, 4, 4, 4, 5, 5, 5, 5, 5, 5, 5, 5, 5, 5, 5, 5, 5, 5, 5, 5, 6, 6, 6, 6, 6, 6, 6, 6, 6, 6, 6, 6, 6, 6, 6, 6, 6, 6, 6, 6, 6, 6, 6, 6, 6, 6, 6, 6, 6, 6, 6, 6, 7, 7, 7, 7, 7, 7, 7, 7, 7, 7, 7, 7, 7, 7, 7, 7, 7, 7, 7, 7, 7, 7, 7, 7, 7, 7, 7, 7, 7, 7, 7, 7, 7, 7, 7, 7, 7, 7, 7, 7, 7, 7, 7, 7, 7, 7, 7, 7, 7, 7, 7, 7, 7, 7, 7, 7, 7, 7, 7, 7, 7, 7, 7, 7, 8, 8, 8, 8, 8, 8, 8, 8, 8, 8, 8, 8, 8, 8, 8, 8, 8, 8, 8, 8, 8, 8, 8, 8, 8, 8, 8, 8, 8, 8, 8, 8, 8, 8, 8, 8, 8, 8, 8, 8, 8, 8, 8, 8, 8, 8, 8, 8, 8, 8, 8, 8, 8, 8, 8, 8, 8, 8, 8, 8, 8, 8, 8, 8, 8, 8, 8, 8, 8, 8, 8, 8, 8, 8, 8, 8, 8, 8, 8, 8, 8, 8, 8, 8, 8, 8, 8, 8, 8, 8, 8, 8, 8, 8, 8, 8, 8, 8, 8, 8, 8, 8, 8, 8, 8, 8, 8, 8, 8, 8, 8, 8, 8, 8, 8, 8, 8, 8, 8, 8, 8, 8, 8, 8, 8, 8, 8, 8])) (.tmp 21), none⟩,
        ⟨some 23, .toInt .i64 (.tmp 22), none⟩,
        ⟨some 24, .bin .add .no (.tmp 19) (.tmp 23), none⟩,
        ⟨some 2, .mov (.tmp 24), none⟩])
     .ret))))⟩
theorem ok103 : FnOK Go.Proofs.Try.prog 103 af103 := ⟨Go.Proofs.Try.f103, Go.Proofs.Try.func103, by kernel_rfl, by kernel_rfl⟩
def af104 : AFn := ⟨5, [.tmp 2], .seq (.ops [⟨some 2, .mov (.lit (.bool false)), none⟩])
 (.seq (.ops [⟨some 3, .mov (.tmp 0), none⟩,
     ⟨some 4, .call (.lit (.fn (.func 118) [] [])) [.tmp 3, .lit (.fn (.func 119) [] [])], none⟩,
     ⟨some 2, .mov (.tmp 4), none⟩])
  .ret)⟩
theorem ok104 : FnOK Go.Proofs.Try.prog 104 af104 := ⟨Go.Proofs.Try.f104, Go.Proofs.Try.func104, by kernel_rfl, by kernel_rfl⟩
def af105 : AFn := ⟨16, [.tmp 2], .seq (.ops [⟨some 2, .mov (.lit (.bool false)), none⟩])
 (.seq (.ops [⟨some 4, .mov (.tmp 0), none⟩,
     ⟨some 5, .call (.lit (.fn (.func 120) [] [])) [.tmp 4], none⟩,
     ⟨some 3, .mov (.tmp 5), none⟩])
  (.seq (.ops [⟨some 6, .mov (.tmp 3), none⟩,
      ⟨some 7, .len 1 (.tmp 6), none⟩,
      ⟨some 8, .bin .eql .no (.tmp 7) (.lit (.int .i64 1)), none⟩,
      ⟨some 9, .mov (.tmp 8), none⟩,
      ⟨some 10, .mov (.tmp 3), some (9, true)⟩,
      ⟨some 11, .iaddr none 2 (.tmp 10) (.lit (.int .i64 0)), some (9, true)⟩,
      ⟨some 12, .faddr 1 (.tmp 11), some (9, true)⟩,
      ⟨some 13, .load none (.tmp 12), some (9, true)⟩,
      ⟨some 14, .bin .eql .no (.tmp 13) (.lit (.int .i64 1)), some (9, true)⟩,
      ⟨some 15, .pick (.tmp 9) (.tmp 14) (.lit (.bool false)), none⟩,
      ⟨some 2, .mov (.tmp 15), none⟩])
   .ret))⟩
theorem ok105 : FnOK Go.Proofs.Try.prog 105 af105 := ⟨Go.Proofs.Try.f105, Go.Proofs.Try.func105, by kernel_rfl, by kernel_rfl⟩
def af106 : AFn := ⟨14, [.tmp 4], .seq (.ops [⟨some 4, .mov (.lit (.int .i64 0)), none⟩])
 (.seq (.ops [⟨some 5, .mov (.tmp 0), none⟩,
     ⟨some 6, .mov (.tmp 1), none⟩,
     ⟨some 7, .bin .rem .no (.tmp 5) (.tmp 6), none⟩,
     ⟨some 0, .mov (.tmp 7), none⟩])
  (.seq (.seq (.ops [⟨some 8, .mov (.tmp 0), none⟩,
       ⟨some 9, .bin .lss .no (.tmp 8) (.lit (.int .i64 0)), none⟩])
    (.cond (.tmp 9) (.ops [⟨some 10, .mov (.tmp 0), none⟩,
        ⟨some 11, .mov (.tmp 1), none⟩,
        ⟨some 12, .bin .add .no (.tmp 10) (.tmp 11), none⟩,
        ⟨some 0, .mov (.tmp 12), none⟩]) .skip))
   (.seq (.ops [⟨some 13, .mov (.tmp 0), none⟩,
       ⟨some 4, .mov (.tmp 13), none⟩])
    .ret)))⟩
theorem ok106 : FnOK Go.Proofs.Try.prog 106 af106 := ⟨Go.Proofs.Try.f106, Go.Proofs.Try.func106, by kernel_rfl, by kernel_rfl⟩
def af107 : AFn := ⟨31, [.tmp 6], .seq (.ops [⟨some 6, .mov (.lit (.int .i64 0)), none⟩])
 (.seq (.ops [⟨some 8, .mov (.tmp 2), none⟩,
     ⟨some 9, .bin .rem .no (.lit (.int .i64 1)) (.tmp 8), none⟩,
     ⟨some 7, .mov (.tmp 9), none⟩])
  (.seq (.ops [⟨some 10, .mov (.tmp 0), none⟩,
      ⟨some 11, .mov (.tmp 2), none⟩,
      ⟨some 12, .call (.lit (.fn (.func 36) [] [])) [.tmp 10, .tmp 11], none⟩,
      ⟨some 0, .mov (.tmp 12), none⟩])
   (.seq (.block 0 (.loop (.seq (.seq (.ops [⟨some 13, .mov (.tmp 1), none⟩,
           ⟨some 14, .bin .gtr .no (.tmp 13) (.lit (.int .i64 0)), none⟩])
        (.cond (.tmp 14) .skip (.exit 0)))
       (.block 1 (.seq (.seq (.ops [⟨some 15, .mov (.tmp 1), none⟩,
             ⟨some 16, .bin .rem .no (.tmp 15) (.lit (.int .i64 2)), none⟩,
             ⟨some 17, .bin .eql .no (.tmp 16) (.lit (.int .i64 1)), none⟩])
          (.cond (.tmp 17) (.ops [⟨some 18, .mov (.tmp 7), none⟩,
              ⟨some 19, .mov (.tmp 0), none⟩,
              ⟨some 20, .bin .mul .no (.tmp 18) (.tmp 19), none⟩,
              ⟨some 21, .mov (.tmp 2), none⟩,
              ⟨some 22, .bin .rem .no (.tmp 20) (.tmp 21), none⟩,
              ⟨some 7, .mov (.tmp 22), none⟩]) .skip))
         (.seq (.ops [⟨some 23, .mov (.tmp 0), none⟩,
             ⟨some 24, .mov (.tmp 0), none⟩,
             ⟨some 25, .bin .mul .no (.tmp 23) (.tmp 24), none⟩,
             ⟨some 26, .mov (.tmp 2), none⟩,
             ⟨some 27, .bin .rem .no (.tmp 25) (.tmp 26), none⟩,
             ⟨some 0, .mov (.tmp 27), none⟩])
          (.ops [⟨some 28, .mov (.tmp 1), none⟩,
             ⟨some 29, .bin .quo .no (.tmp 28) (.lit (.int .i64 2)), none⟩,
             ⟨some 1, .mov (.tmp 29), none⟩])))))))
    (.seq (.ops [⟨some 30, .mov (.tmp 7), none⟩,
        ⟨some 6, .mov (.tmp 30), none⟩])
     .ret))))⟩
theorem ok107 : FnOK Go.Proofs.Try.prog 107 af107 := ⟨Go.Proofs.Try.f107, Go.Proofs.Try.func107, by kernel_rfl, by kernel_rfl⟩
def af110 : AFn := ⟨21, [.tmp 2], .seq (.ops [⟨some 2, .mov (.lit .nils), none⟩])
 (.seq (.ops [⟨some 4, .mov (.tmp 0), none⟩,
     ⟨some 5, .len 1 (.tmp 4), none⟩,
     ⟨some 3, .mov (.tmp 5), none⟩])
  (.seq (.block 0 (.loop (.seq (.seq (.ops [⟨some 6, .mov (.tmp 3), none⟩,
          ⟨some 7, .bin .gtr .no (.tmp 6) (.lit (.int .i64 0)), none⟩,
          ⟨some 8, .mov (.tmp 7), none⟩,
          ⟨some 9, .mov (.tmp 0), some (8, true)⟩,
          ⟨some 10, .mov (.tmp 3), some (8, true)⟩,
          ⟨some 11, .bin .sub .no (.tmp 10) (.lit (.int .i64 1)), some (8, true)⟩,
          ⟨some 12, .iaddr none 1 (.tmp 9) (.tmp 11), some (8, true)⟩,
          ⟨some 13, .load none (.tmp 12), some (8, true)⟩,
          ⟨some 14, .bin .eql .no (.tmp 13) (.lit (.int .u64 0)), some (8, true)⟩,
          ⟨some 15, .pick (.tmp 8) (.tmp 14) (.lit (.bool false)), none⟩])
       (.cond (.tmp 15) .skip (.exit 0)))
      (.block 1 (.ops [⟨some 16, .mov (.tmp 3), none⟩,
          ⟨some 17, .bin .sub .no (.tmp 16) (.lit (.int .i64 1)), none⟩,
          ⟨some 3, .mov (.tmp 17), none⟩])))))
   (.seq (.ops [⟨some 18, .mov (.tmp 0), none⟩,
       ⟨some 19, .mov (.tmp 3), none⟩,
       ⟨some 20, .slice 1 (.tmp 18) none (some (.tmp 19)) none, none⟩,
       ⟨some 2, .mov (.tmp 20), none⟩])
    .ret)))⟩
theorem ok110 : FnOK Go.Proofs.Try.prog 110 af110 := ⟨Go.Proofs.Try.f110, Go.Proofs.Try.func110, by kernel_rfl, by kernel_rfl⟩
def af111 : AFn := ⟨51, [.tmp 4, .tmp 5], .seq (.ops [⟨some 4, .mov (.lit (.int .u64 0)), none⟩,
    ⟨some 5, .mov (.lit (.int .u64 0)), none⟩])
 (.seq (.ops [⟨some 14, .mov (.tmp 0), none⟩,
     ⟨some 15, .bin .and .no (.tmp 14) (.lit (.int .u64 4294967295)), none⟩,
     ⟨some 6, .mov (.tmp 15), none⟩])
  (.seq (.ops [⟨some 16, .mov (.tmp 0), none⟩,
      ⟨some 17, .bin .shr .no (.tmp 16) (.lit (.int .u64 32)), none⟩,
      ⟨some 7, .mov (.tmp 17), none⟩])
   (.seq (.ops [⟨some 18, .mov (.tmp 1), none⟩,
       ⟨some 19, .bin .and .no (.tmp 18) (.lit (.int .u64 4294967295)), none⟩,
       ⟨some 8, .mov (.tmp 19), none⟩])
    (.seq (.ops [⟨some 20, .mov (.tmp 1), none⟩,
        ⟨some 21, .bin .shr .no (.tmp 20) (.lit (.int .u64 32)), none⟩,
        ⟨some 9, .mov (.tmp 21), none⟩])
     (.seq (.ops [⟨some 22, .mov (.tmp 6), none⟩,
         ⟨some 23, .mov (.tmp 8), none⟩,
         ⟨some 24, .bin .mul .no (.tmp 22) (.tmp 23), none⟩,
         ⟨some 10, .mov (.tmp 24), none⟩])
      (.seq (.ops [⟨some 25, .mov (.tmp 7), none⟩,
          ⟨some 26, .mov (.tmp 8), none⟩,
          ⟨some 27, .bin .mul .no (.tmp 25) (.tmp 26), none⟩,
          ⟨some 28, .mov (.tmp 10), none⟩,
          ⟨some 29, .bin .shr .no (.tmp 28) (.lit (.int .u64 32)), none⟩,
          ⟨some 30, .bin .add .no (.tmp 27) (.tmp 29), none⟩,
          ⟨some 11, .mov (.tmp 30), none⟩])
       (.seq (.ops [⟨some 31, .mov (.tmp 11), none⟩,
           ⟨some 32, .bin .and .no (.tmp 31) (.lit (.int .u64 4294967295)), none⟩,
           ⟨some 12, .mov (.tmp 32), none⟩])
        (.seq (.ops [⟨some 33, .mov (.tmp 11), none⟩,
            ⟨some 34, .bin .shr .no (.tmp 33) (.lit (.int .u64 32)), none⟩,
            ⟨some 13, .mov (.tmp 34), none⟩])
         (.seq (.ops [⟨some 35, .mov (.tmp 12), none⟩,
             ⟨some 36, .mov (.tmp 6), none⟩,
             ⟨some 37, .mov (.tmp 9), none⟩,
             ⟨some 38, .bin .mul .no (.tmp 36) (.tmp 37), none⟩,
             ⟨some 39, .bin .add .no (.tmp 35) (.tmp 38), none⟩,
             ⟨some 12, .mov (.tmp 39), none⟩])
          (.seq (.ops [⟨some 40, .mov (.tmp 7), none⟩,
              ⟨some 41, .mov (.tmp 9), none⟩,
              ⟨some 42, .bin .mul .no (.tmp 40) (.tmp 41), none⟩,
              ⟨some 43, .mov (.tmp 13), none⟩,
              ⟨some 44, .bin .add .no (.tmp 42) (.tmp 43), none⟩,
              ⟨some 45, .mov (.tmp 12), none⟩,
              ⟨some 46, .bin .shr .no (.tmp 45) (.lit (.int .u64 32)), none⟩,
              ⟨some 47, .bin .add .no (.tmp 44) (.tmp 46), none⟩,
              ⟨some 4, .mov (.tmp 47), none⟩])
           (.seq (.ops [⟨some 48, .mov (.tmp 0), none⟩,
               ⟨some 49, .mov (.tmp 1), none⟩,
               ⟨some 50, .bin .mul .no (.tmp 48) (.tmp 49), none⟩,
               ⟨some 5, .mov (.tmp 50), none⟩])
            .ret)))))))))))⟩
theorem ok111 : FnOK Go.Proofs.Try.prog 111 af111 := ⟨Go.Proofs.Try.f111, Go.Proofs.Try.func111, by kernel_rfl, by kernel_rfl⟩
def af112 : AFn := ⟨21, [.tmp 2], .seq (.ops [⟨some 2, .mov (.lit .nils), none⟩])
 (.seq (.block 0 (.loop (.seq (.seq (.ops [⟨some 3, .mov (.tmp 0), none⟩,
         ⟨some 4, .len 1 (.tmp 3), none⟩,
         ⟨some 5, .bin .gtr .no (.tmp 4) (.lit (.int .i64 0)), none⟩,
         ⟨some 6, .mov (.tmp 5), none⟩,
         ⟨some 7, .mov (.tmp 0), some (6, true)⟩,
         ⟨some 8, .mov (.tmp 0), some (6, true)⟩,
         ⟨some 9, .len 1 (.tmp 8), some (6, true)⟩,
         ⟨some 10, .bin .sub .no (.tmp 9) (.lit (.int .i64 1)), some (6, true)⟩,
         ⟨some 11, .iaddr none 1 (.tmp 7) (.tmp 10), some (6, true)⟩,
         ⟨some 12, .load none (.tmp 11), some (6, true)⟩,
         ⟨some 13, .bin .eql .no (.tmp 12) (.lit (.int .u64 0)), some (6, true)⟩,
         ⟨some 14, .pick (.tmp 6) (.tmp 13) (.lit (.bool false)), none⟩])
      (.cond (.tmp 14) .skip (.exit 0)))
     (.block 1 (.ops [⟨some 15, .mov (.tmp 0), none⟩,
         ⟨some 16, .mov (.tmp 0), none⟩,
         ⟨some 17, .len 1 (.tmp 16), none⟩,
         ⟨some 18, .bin .sub .no (.tmp 17) (.lit (.int .i64 1)), none⟩,
         ⟨some 19, .slice 1 (.tmp 15) none (some (.tmp 18)) none, none⟩,
         ⟨some 0, .mov (.tmp 19), none⟩])))))
  (.seq (.ops [⟨some 20, .mov (.tmp 0), none⟩,
      ⟨some 2, .mov (.tmp 20), none⟩])
   .ret))⟩
theorem ok112 : FnOK Go.Proofs.Try.prog 112 af112 := ⟨Go.Proofs.Try.f112, Go.Proofs.Try.func112, by kernel_rfl, by kernel_rfl⟩
def af113 : AFn := ⟨82, [], .seq (.ops [⟨some 12, .mov (.tmp 1), none⟩,
    ⟨some 10, .mov (.tmp 12), none⟩])
 (.block 0 (.loop (.block 1 (.seq (.ops [⟨some 13, .mov (.tmp 10), none⟩,
        ⟨some 14, .bin .mul .no (.lit (.int .i64 2)) (.tmp 13), none⟩,
        ⟨some 15, .bin .add .no (.tmp 14) (.lit (.int .i64 1)), none⟩,
        ⟨some 11, .mov (.tmp 15), none⟩])
     (.seq (.seq (.ops [⟨some 16, .mov (.tmp 11), none⟩,
          ⟨some 17, .mov (.tmp 2), none⟩,
          ⟨some 18, .bin .geq .no (.tmp 16) (.tmp 17), none⟩])
       (.cond (.tmp 18) (.exit 0) .skip))
      (.seq (.seq (.draw [(⟨some 19, .mov (.tmp 11), none⟩, 0),
           (⟨some 20, .bin .add .no (.tmp 19) (.lit (.int .i64 1)), none⟩, 0),
           (⟨some 21, .mov (.tmp 2), none⟩, 0),
           (⟨some 22, .bin .lss .no (.tmp 20) (.tmp 21), none⟩, 0),
           (⟨some 23, .mov (.tmp 22), none⟩, 0),
           (⟨some 24, .mov (.tmp 4), some (23, true)⟩, 0),
           (⟨some 25, .mov (.tmp 0), some (23, true)⟩, 0),
           (⟨some 26, .mov (.tmp 3), some (23, true)⟩, 0),
           (⟨some 27, .mov (.tmp 11), some (23, true)⟩, 0),
           (⟨some 28, .bin .add .no (.tmp 26) (.tmp 27), some (23, true)⟩, 0),
           (⟨some 29, .iaddr none 3 (.tmp 25) (.tmp 28), some (23, true)⟩, 0),
           (⟨some 30, .load (some 3) (.tmp 29), some (23, true)⟩, 0),
           (⟨some 31, .mov (.tmp 0), some (23, true)⟩, 0),
           (⟨some 32, .mov (.tmp 3), some (23, true)⟩, 0),
           (⟨some 33, .mov (.tmp 11), some (23, true)⟩, 0),
           (⟨some 34, .bin .add .no (.tmp 32) (.tmp 33), some (23, true)⟩, 0),
           (⟨some 35, .bin .add .no (.tmp 34) (.lit (.int .i64 1)), some (23, true)⟩, 0),
           (⟨some 36, .iaddr none 3 (.tmp 31) (.tmp 35), some (23, true)⟩, 0),
           (⟨some 37, .load (some 3) (.tmp 36), some (23, true)⟩, 0),
           (⟨some 38, .call (.tmp 24) [.tmp 30, .tmp 37], some (23, true)⟩, 0),
           (⟨some 39, .bin .lss .no (.tmp 38) (.lit (.int .i64 0)), some (23, true)⟩, 0),
           (⟨some 40, .pick (.tmp 23) (.tmp 39) (.lit (.bool false)), none⟩, 0)])
        (.cond (.tmp 40) (.ops [⟨some 41, .mov (.tmp 11), none⟩,
            ⟨some 42, .bin .add .no (.tmp 41) (.lit (.int .i64 1)), none⟩,
            ⟨some 11, .mov (.tmp 42), none⟩]) .skip))
       (.seq (.seq (.draw [(⟨some 43, .mov (.tmp 4), none⟩, 0),
            (⟨some 44, .mov (.tmp 0), none⟩, 0),
            (⟨some 45, .mov (.tmp 3), none⟩, 0),
            (⟨some 46, .mov (.tmp 10), none⟩, 0),
            (⟨some 47, .bin .add .no (.tmp 45) (.tmp 46), none⟩, 0),
            (⟨some 48, .iaddr none 3 (.tmp 44) (.tmp 47), none⟩, 0),
            (⟨some 49, .load (some 3) (.tmp 48), none⟩, 0),
            (⟨some 50, .mov (.tmp 0), none⟩, 0),
            (⟨some 51, .mov (.tmp 3), none⟩, 0),
            (⟨some 52, .mov (.tmp 11), none⟩, 0),
            (⟨some 53, .bin .add .no (.tmp 51) (.tmp 52), none⟩, 0),
            (⟨some 54, .iaddr none 3 (.tmp 50) (.tmp 53), none⟩, 0),
            (⟨some 55, .load (some 3) (.tmp 54), none⟩, 0),
            (⟨some 56, .call (.tmp 43) [.tmp 49, .tmp 55], none⟩, 0),
            (⟨some 57, .bin .lss .no (.tmp 56) (.lit (.int .i64 0)), none⟩, 0),
            (⟨some 58, .un .not (.tmp 57), none⟩, 0)])
         (.cond (.tmp 58) .ret .skip))
        (.seq (.draw [(⟨some 59, .mov (.tmp 0), none⟩, 0),
            (⟨some 60, .mov (.tmp 3), none⟩, 0),
            (⟨some 61, .mov (.tmp 10), none⟩, 0),
            (⟨some 62, .bin .add .no (.tmp 60) (.tmp 61), none⟩, 0),
            (⟨some 63, .mov (.tmp 0), none⟩, 0),
            (⟨some 64, .mov (.tmp 3), none⟩, 0),
            (⟨some 65, .mov (.tmp 11), none⟩, 0),
            (⟨some 66, .bin .add .no (.tmp 64) (.tmp 65), none⟩, 0),
            (⟨some 67, .mov (.tmp 0), none⟩, 0),
            (⟨some 68, .mov (.tmp 3), none⟩, 0),
            (⟨some 69, .mov (.tmp 11), none⟩, 0),
            (⟨some 70, .bin .add .no (.tmp 68) (.tmp 69), none⟩, 0),
            (⟨some 71, .iaddr none 3 (.tmp 67) (.tmp 70), none⟩, 0),
            (⟨some 72, .load (some 3) (.tmp 71), none⟩, 0),
            (⟨some 73, .mov (.tmp 0), none⟩, 0),
            (⟨some 74, .mov (.tmp 3), none⟩, 0),
            (⟨some 75, .mov (.tmp 10), none⟩, 0),
            (⟨some 76, .bin .add .no (.tmp 74) (.tmp 75), none⟩, 0),
            (⟨some 77, .iaddr none 3 (.tmp 73) (.tmp 76), none⟩, 0),
            (⟨some 78, .load (some 3) (.tmp 77), none⟩, 0),
            (⟨some 79, .iaddr none 3 (.tmp 59) (.tmp 62), none⟩, 0),
            (⟨none, .store 3 (.tmp 79) (.tmp 72), none⟩, 0),
            (⟨some 80, .iaddr none 3 (.tmp 63) (.tmp 66), none⟩, 0),
            (⟨none, .store 3 (.tmp 80) (.tmp 78), none⟩, 0)])
         (.ops [⟨some 81, .mov (.tmp 11), none⟩,
            ⟨some 10, .mov (.tmp 81), none⟩])))))))))⟩
theorem ok113 : FnOK Go.Proofs.Try.prog 113 af113 := ⟨Go.Proofs.Try.f113, Go.Proofs.Try.func113, by kernel_rfl, by kernel_rfl⟩
def af114 : AFn := ⟨7, [.tmp 2], .seq (.ops [⟨some 2, .mov (.lit (.int .u64 0)), none⟩])
 (.seq (.ops [⟨some 3, .mov (.tmp 0), none⟩,
     ⟨some 4, .toInt .u64 (.tmp 3), none⟩,
     ⟨some 5, .call (.lit (.fn (.func 82) [] [])) [.tmp 4], none⟩,
     ⟨some 6, .bin .shl .no (.lit (.int .u64 1)) (.tmp 5), none⟩,
     ⟨some 2, .mov (.tmp 6), none⟩])
  .ret)⟩
theorem ok114 : FnOK Go.Proofs.Try.prog 114 af114 := ⟨Go.Proofs.Try.f114, Go.Proofs.Try.func114, by kernel_rfl, by kernel_rfl⟩
def af115 : AFn := ⟨33, [.tmp 2], .seq (.ops [⟨some 2, .mov (.lit (.int .u64 0)), none⟩])
 (.seq (.draw [(⟨some 3, .mov (.tmp 0), none⟩, 0),
     (⟨some 4, .nilck (.tmp 3), none⟩, 0),
     (⟨some 5, .load none (.tmp 4), none⟩, 0),
     (⟨some 6, .mov (.tmp 0), none⟩, 0),
     (⟨some 7, .nilck (.tmp 6), none⟩, 0),
     (⟨some 8, .load none (.tmp 7), none⟩, 0),
     (⟨some 9, .bin .shl .no (.tmp 8) (.lit (.int .u64 13)), none⟩, 0),
     (⟨some 10, .bin .xor .no (.tmp 5) (.tmp 9), none⟩, 0),
     (⟨some 11, .nilck (.tmp 3), none⟩, 0),
     (⟨none, .store 1 (.tmp 11) (.tmp 10), none⟩, 0)])
  (.seq (.draw [(⟨some 12, .mov (.tmp 0), none⟩, 0),
      (⟨some 13, .nilck (.tmp 12), none⟩, 0),
      (⟨some 14, .load none (.tmp 13), none⟩, 0),
      (⟨some 15, .mov (.tmp 0), none⟩, 0),
      (⟨some 16, .nilck (.tmp 15), none⟩, 0),
      (⟨some 17, .load none (.tmp 16), none⟩, 0),
      (⟨some 18, .bin .shr .no (.tmp 17) (.lit (.int .u64 7)), none⟩, 0),
      (⟨some 19, .bin .xor .no (.tmp 14) (.tmp 18), none⟩, 0),
      (⟨some 20, .nilck (.tmp 12), none⟩, 0),
      (⟨none, .store 1 (.tmp 20) (.tmp 19), none⟩, 0)])
   (.seq (.draw [(⟨some 21, .mov (.tmp 0), none⟩, 0),
       (⟨some 22, .nilck (.tmp 21), none⟩, 0),
       (⟨some 23, .load none (.tmp 22), none⟩, 0),
       (⟨some 24, .mov (.tmp 0), none⟩, 0),
       (⟨some 25, .nilck (.tmp 24), none⟩, 0),
       (⟨some 26, .load none (.tmp 25), none⟩, 0),
       (⟨some 27, .bin .shl .no (.tmp 26) (.lit (.int .u64 17)), none⟩, 0),
       (⟨some 28, .bin .xor .no (.tmp 23) (.tmp 27), none⟩, 0),
       (⟨some 29, .nilck (.tmp 21), none⟩, 0),
       (⟨none, .store 1 (.tmp 29) (.tmp 28), none⟩, 0)])
    (.seq (.ops [⟨some 30, .mov (.tmp 0), none⟩,
        ⟨some 31, .nilck (.tmp 30), none⟩,
        ⟨some 32, .load none (.tmp 31), none⟩,
        ⟨some 2, .mov (.tmp 32), none⟩])
     .ret))))⟩
theorem ok115 : FnOK Go.Proofs.Try.prog 115 af115 := ⟨Go.Proofs.Try.f115, Go.Proofs.Try.func115, by kernel_rfl, by kernel_rfl⟩
def af116 : AFn := ⟨18, [.tmp 8], .seq (.ops [⟨some 8, .mov (.lit (.int .i64 0)), none⟩])
 (.seq (.ops [⟨some 9, .mov (.tmp 0), none⟩,
     ⟨some 10, .mov (.tmp 1), none⟩,
     ⟨some 11, .bin .sub .no (.tmp 10) (.lit (.int .i64 1)), none⟩,
     ⟨some 12, .mov (.tmp 1), none⟩,
     ⟨some 13, .mov (.tmp 1), none⟩,
     ⟨some 14, .bin .add .no (.tmp 13) (.lit (.int .i64 1)), none⟩,
     ⟨some 15, .mov (.tmp 2), none⟩,
     ⟨some 16, .mov (.tmp 3), none⟩,
     ⟨some 17, .call (.lit (.fn (.func 117) [] [])) [.tmp 9, .tmp 11, .tmp 12, .tmp 14, .tmp 15, .tmp 16], none⟩,
     ⟨some 8, .mov (.tmp 17), none⟩])
  .ret)⟩
theorem ok116 : FnOK Go.Proofs.Try.prog 116 af116 := ⟨Go.Proofs.Try.f116, Go.Proofs.Try.func116, by kernel_rfl, by kernel_rfl⟩
def af117 : AFn := ⟨41, [.tmp 12], .seq (.ops [⟨some 12, .mov (.lit (.int .i64 0)), none⟩])
 (.seq (.ops [⟨some 14, .mov (.tmp 0), none⟩,
     ⟨some 15, .mov (.tmp 1), none⟩,
     ⟨some 16, .mov (.tmp 2), none⟩,
     ⟨some 17, .mov (.tmp 4), none⟩,
     ⟨some 18, .mov (.tmp 5), none⟩,
     ⟨some 19, .call (.lit (.fn (.func 121) [] [])) [.tmp 14, .tmp 15, .tmp 16, .tmp 17, .tmp 18], none⟩,
     ⟨some 13, .mov (.tmp 19), none⟩,
     ⟨some 20, .extr 0 (.tmp 13), none⟩,
     ⟨some 21, .extr 1 (.tmp 13), none⟩,
     ⟨some 1, .mov (.tmp 20), none⟩,
     ⟨some 2, .mov (.tmp 21), none⟩])
  (.seq (.ops [⟨some 23, .mov (.tmp 0), none⟩,
      ⟨some 24, .mov (.tmp 2), none⟩,
      ⟨some 25, .mov (.tmp 3), none⟩,
      ⟨some 26, .mov (.tmp 4), none⟩,
      ⟨some 27, .mov (.tmp 5), none⟩,
      ⟨some 28, .call (.lit (.fn (.func 121) [] [])) [.tmp 23, .tmp 24, .tmp 25, .tmp 26, .tmp 27], none⟩,
      ⟨some 22, .mov (.tmp 28), none⟩,
      ⟨some 29, .extr 0 (.tmp 22), none⟩,
      ⟨some 30, .extr 1 (.tmp 22), none⟩,
      ⟨some 2, .mov (.tmp 29), none⟩,
      ⟨some 3, .mov (.tmp 30), none⟩])
   (.seq (.ops [⟨some 32, .mov (.tmp 0), none⟩,
       ⟨some 33, .mov (.tmp 1), none⟩,
       ⟨some 34, .mov (.tmp 2), none⟩,
       ⟨some 35, .mov (.tmp 4), none⟩,
       ⟨some 36, .mov (.tmp 5), none⟩,
       ⟨some 37, .call (.lit (.fn (.func 121) [] [])) [.tmp 32, .tmp 33, .tmp 34, .tmp 35, .tmp 36], none⟩,
       ⟨some 31, .mov (.tmp 37), none⟩,
       ⟨some 38, .extr 0 (.tmp 31), none⟩,
       ⟨some 39, .extr 1 (.tmp 31), none⟩,
       ⟨some 1, .mov (.tmp 38), none⟩,
       ⟨some 2, .mov (.tmp 39), none⟩])
    (.seq (.ops [⟨some 40, .mov (.tmp 2), none⟩,
        ⟨some 12, .mov (.tmp 40), none⟩])
     .ret))))⟩
theorem ok117 : FnOK Go.Proofs.Try.prog 117 af117 := ⟨Go.Proofs.Try.f117, Go.Proofs.Try.func117, by kernel_rfl, by kernel_rfl⟩
def af118 : AFn := ⟨9, [.tmp 4], .seq (.ops [⟨some 4, .mov (.lit (.bool false)), none⟩])
 (.seq (.ops [⟨some 5, .mov (.tmp 0), none⟩,
     ⟨some 6, .mov (.tmp 1), none⟩,
     ⟨some 7, .call (.lit (.fn (.func 122) [] [])) [.tmp 5, .tmp 6], none⟩,
     ⟨some 8, .bin .geq .no (.tmp 7) (.lit (.int .i64 0)), none⟩,
     ⟨some 4, .mov (.tmp 8), none⟩])
  .ret)⟩
theorem ok118 : FnOK Go.Proofs.Try.prog 118 af118 := ⟨Go.Proofs.Try.f118, Go.Proofs.Try.func118, by kernel_rfl, by kernel_rfl⟩
def af119 : AFn := ⟨9, [.tmp 2], .seq (.ops [⟨some 2, .mov (.lit (.bool false)), none⟩])
 (.seq (.ops [⟨some 3, .mov (.tmp 0), none⟩,
     ⟨some 4, .bin .lss .no (.tmp 3) (.lit (.int .i64 1)), none⟩,
     ⟨some 5, .mov (.tmp 4), none⟩,
     ⟨some 6, .mov (.tmp 0), some (5, false)⟩,
     ⟨some 7, .bin .gtr .no (.tmp 6) (.lit (.int .i64 2147483647)), some (5, false)⟩,
     ⟨some 8, .pick (.tmp 5) (.lit (.bool true)) (.tmp 7), none⟩,
     ⟨some 2, .mov (.tmp 8), none⟩])
  .ret)⟩
theorem ok119 : FnOK Go.Proofs.Try.prog 119 af119 := ⟨Go.Proofs.Try.f119, Go.Proofs.Try.func119, by kernel_rfl, by kernel_rfl⟩
def af120 : AFn := ⟨25, [.tmp 2], .seq (.ops [⟨some 1, .box (.tmp 0), none⟩,
    ⟨some 2, .mov (.lit .nils), none⟩])
 (.seq (.ops [⟨some 3, .alloc [.nils], none⟩])
  (.seq (.ops [⟨some 6, .mkfn (.func 123) [] [.tmp 1, .tmp 3], none⟩,
      ⟨some 4, .mov (.tmp 6), none⟩])
   (.seq (.ops [⟨some 7, .mov (.tmp 4), none⟩,
       ⟨some 8, .call (.tmp 7) [.lit (.int .i64 2)], none⟩])
    (.seq (.seq (.ops [⟨some 5, .mov (.lit (.int .i64 3)), none⟩])
      (.block 0 (.loop (.seq (.seq (.ops [⟨some 9, .mov (.tmp 5), none⟩,
             ⟨some 10, .mov (.tmp 5), none⟩,
             ⟨some 11, .bin .mul .no (.tmp 9) (.tmp 10), none⟩,
             ⟨some 12, .load none (.tmp 1), none⟩,
             ⟨some 13, .bin .leq .no (.tmp 11) (.tmp 12), none⟩])
          (.cond (.tmp 13) .skip (.exit 0)))
         (.seq (.block 1 (.ops [⟨some 16, .mov (.tmp 4), none⟩,
              ⟨some 17, .mov (.tmp 5), none⟩,
              ⟨some 18, .call (.tmp 16) [.tmp 17], none⟩]))
          (.ops [⟨some 14, .mov (.tmp 5), none⟩,
             ⟨some 15, .bin .add .no (.tmp 14) (.lit (.int .i64 2)), none⟩,
             ⟨some 5, .mov (.tmp 15), none⟩]))))))
     (.seq (.seq (.ops [⟨some 19, .load none (.tmp 1), none⟩,
          ⟨some 20, .bin .gtr .no (.tmp 19) (.lit (.int .i64 1)), none⟩])
       (.cond (.tmp 20) (.ops [⟨some 21, .mov (.tmp 4), none⟩,
           ⟨some 22, .load none (.tmp 1), none⟩,
           ⟨some 23, .call (.tmp 21) [.tmp 22], none⟩]) .skip))
      (.seq (.ops [⟨some 24, .load none (.tmp 3), none⟩,
          ⟨some 2, .mov (.tmp 24), none⟩])
       .ret))))))⟩
theorem ok120 : FnOK Go.Proofs.Try.prog 120 af120 := ⟨Go.Proofs.Try.f120, Go.Proofs.Try.func120, by kernel_rfl, by kernel_rfl⟩
def af121 : AFn := ⟨32, [.tmp 10, .tmp 11], .seq (.ops [⟨some 10, .mov (.lit (.int .i64 0)), none⟩,
    ⟨some 11, .mov (.lit (.int .i64 0)), none⟩])
 (.seq (.seq (.draw [(⟨some 12, .mov (.tmp 4), none⟩, 0),
      (⟨some 13, .mov (.tmp 0), none⟩, 0),
      (⟨some 14, .mov (.tmp 2), none⟩, 0),
      (⟨some 15, .iaddr none 3 (.tmp 13) (.tmp 14), none⟩, 0),
      (⟨some 16, .load (some 3) (.tmp 15), none⟩, 0),
      (⟨some 17, .mov (.tmp 0), none⟩, 0),
      (⟨some 18, .mov (.tmp 1), none⟩, 0),
      (⟨some 19, .iaddr none 3 (.tmp 17) (.tmp 18), none⟩, 0),
      (⟨some 20, .load (some 3) (.tmp 19), none⟩, 0),
      (⟨some 21, .call (.tmp 12) [.tmp 16, .tmp 20], none⟩, 0),
      (⟨some 22, .bin .lss .no (.tmp 21) (.lit (.int .i64 0)), none⟩, 0)])
   (.cond (.tmp 22) (.seq (.ops [⟨some 23, .mov (.tmp 3), none⟩,
        ⟨some 24, .nilck (.tmp 23), none⟩,
        ⟨some 25, .load none (.tmp 24), none⟩,
        ⟨some 26, .bin .add .no (.tmp 25) (.lit (.int .i64 1)), none⟩,
        ⟨some 27, .nilck (.tmp 23), none⟩,
        ⟨none, .store 1 (.tmp 27) (.tmp 26), none⟩])
     (.seq (.ops [⟨some 28, .mov (.tmp 2), none⟩,
         ⟨some 29, .mov (.tmp 1), none⟩,
         ⟨some 10, .mov (.tmp 28), none⟩,
         ⟨some 11, .mov (.tmp 29), none⟩])
      .ret)) .skip))
  (.seq (.ops [⟨some 30, .mov (.tmp 1), none⟩,
      ⟨some 31, .mov (.tmp 2), none⟩,
      ⟨some 10, .mov (.tmp 30), none⟩,
      ⟨some 11, .mov (.tmp 31), none⟩])
   .ret))⟩
theorem ok121 : FnOK Go.Proofs.Try.prog 121 af121 := ⟨Go.Proofs.Try.f121, Go.Proofs.Try.func121, by kernel_rfl, by kernel_rfl⟩
def af122 : AFn := ⟨19, [.tmp 4], .seq (.ops [⟨some 4, .mov (.lit (.int .i64 0)), none⟩])
 (.seq (.seq (.ops [⟨some 6, .mov (.tmp 0), none⟩,
      ⟨some 7, .len 1 (.tmp 6), none⟩,
      ⟨some 8, .mov (.lit (.int .i64 0)), none⟩])
   (.block 0 (.loop (.seq (.ops [⟨some 9, .bin .lss .no (.tmp 8) (.tmp 7), none⟩])
      (.seq (.cond (.tmp 9) .skip (.exit 0))
       (.seq (.block 1 (.seq (.ops [⟨some 10, .mov (.tmp 8), none⟩,
             ⟨some 5, .mov (.tmp 10), none⟩])
          (.seq (.ops [⟨some 11, .mov (.tmp 1), none⟩,
              ⟨some 12, .mov (.tmp 0), none⟩,
              ⟨some 13, .mov (.tmp 5), none⟩,
              ⟨some 14, .iaddr none 1 (.tmp 12) (.tmp 13), none⟩,
              ⟨some 15, .load none (.tmp 14), none⟩,
              ⟨some 16, .call (.tmp 11) [.tmp 15], none⟩])
           (.cond (.tmp 16) (.seq (.ops [⟨some 17, .mov (.tmp 5), none⟩,
                ⟨some 4, .mov (.tmp 17), none⟩])
             .ret) .skip))))
        (.ops [⟨some 18, .bin .add .no (.tmp 8) (.lit (.int .i64 1)), none⟩,
           ⟨some 8, .mov (.tmp 18), none⟩])))))))
  (.seq (.ops [⟨some 4, .mov (.lit (.int .i64 (-1))), none⟩])
   .ret))⟩
theorem ok122 : FnOK Go.Proofs.Try.prog 122 af122 := ⟨Go.Proofs.Try.f122, Go.Proofs.Try.func122, by kernel_rfl, by kernel_rfl⟩
def af123 : AFn := ⟨22, [], .seq (.ops [⟨some 4, .mov (.lit (.int .i64 0)), none⟩])
 (.seq (.block 0 (.loop (.seq (.seq (.ops [⟨some 5, .load none (.tmp 1), none⟩,
         ⟨some 6, .mov (.tmp 0), none⟩,
         ⟨some 7, .bin .rem .no (.tmp 5) (.tmp 6), none⟩,
         ⟨some 8, .bin .eql .no (.tmp 7) (.lit (.int .i64 0)), none⟩])
      (.cond (.tmp 8) .skip (.exit 0)))
     (.block 1 (.seq (.ops [⟨some 9, .load none (.tmp 1), none⟩,
          ⟨some 10, .mov (.tmp 0), none⟩,
          ⟨some 11, .bin .quo .no (.tmp 9) (.tmp 10), none⟩,
          ⟨none, .store 1 (.tmp 1) (.tmp 11), none⟩])
       (.ops [⟨some 12, .mov (.tmp 4), none⟩,
          ⟨some 13, .bin .add .no (.tmp 12) (.lit (.int .i64 1)), none⟩,
          ⟨some 4, .mov (.tmp 13), none⟩]))))))
  (.seq (.ops [⟨some 14, .mov (.tmp 4), none⟩,
      ⟨some 15, .bin .gtr .no (.tmp 14) (.lit (.int .i64 0)), none⟩])
   (.cond (.tmp 15) (.ops [⟨some 16, .load none (.tmp 2), none⟩,
       ⟨some 17, .mov (.tmp 0), none⟩,
       ⟨some 18, .mov (.tmp 4), none⟩,
       ⟨some 19, .build [.int .i64 0, .int .i64 0] [(0, (1, .tmp 17)), (1, (1, .tmp 18))], none⟩,
       ⟨some 20, .bslice 1 2 [.int .i64 0, .int .i64 0] [(0, .tmp 19)], none⟩,
       ⟨some 21, .append 2 16 [.int .i64 0, .int .i64 0] (.tmp 16) (.tmp 20), none⟩,
       ⟨none, .store 1 (.tmp 2) (.tmp 21), none⟩]) .skip)))⟩
theorem ok123 : FnOK Go.Proofs.Try.prog 123 af123 := ⟨Go.Proofs.Try.f123, Go.Proofs.Try.func123, by kernel_rfl, by kernel_rfl⟩
end Go.AM
