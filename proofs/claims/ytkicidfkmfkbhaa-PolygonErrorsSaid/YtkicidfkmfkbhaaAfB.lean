/- The functions of the cut in the machine's form, printed by a program of this claim's own; each is the translation of the loaded function. No condition. -/
import Derived.Test.YtkicidfkmfkbhaaRows
import Derived.Test.YtkicidfkmfkbhaaAm23
set_option maxRecDepth 100000
namespace Go.AM
open Go
def af102 : AFn := ⟨148, [.tmp 4, .tmp 5], .seq (.ops [⟨some 4, .mov (.lit (.str [])), none⟩,
    ⟨some 5, .mov (.lit (.str [])), none⟩])
 (.seq (.seq (.ops [⟨some 16, .mov (.tmp 1), none⟩,
      ⟨some 17, .bin .eql .no (.tmp 16) (.lit (.str [])), none⟩])
   (.cond (.tmp 17) (.seq (.ops [⟨some 4, .mov (.lit (.str [])), none⟩,
        ⟨some 5, .mov (.lit (.str [])), none⟩])
     .ret) .skip))
  (.seq (.ops [⟨some 18, .mov (.tmp 0), none⟩,
      ⟨some 19, .call (.lit (.fn (.func 108) [] [])) [.tmp 18], none⟩,
      ⟨some 20, .mov (.tmp 1), none⟩,
      ⟨some 21, .call (.lit (.fn (.func 108) [] [])) [.tmp 20], none⟩,
      ⟨some 6, .mov (.tmp 19), none⟩,
      ⟨some 7, .mov (.tmp 21), none⟩])
   (.seq (.ops [⟨some 22, .mov (.tmp 7), none⟩,
       ⟨some 23, .len 1 (.tmp 22), none⟩,
       ⟨some 8, .mov (.tmp 23), none⟩])
    (.seq (.ops [⟨some 24, .mov (.tmp 6), none⟩,
        ⟨some 25, .bslice 1 1 [.int .u64 0] [(0, .lit (.int .u64 0))], none⟩,
        ⟨some 26, .append 1 8 [.int .u64 0] (.tmp 24) (.tmp 25), none⟩,
        ⟨some 9, .mov (.tmp 26), none⟩])
     (.seq (.ops [⟨some 27, .mov (.tmp 6), none⟩,
         ⟨some 28, .len 1 (.tmp 27), none⟩,
         ⟨some 29, .mov (.tmp 8), none⟩,
         ⟨some 30, .bin .sub .no (.tmp 28) (.tmp 29), none⟩,
         ⟨some 31, .bin .add .no (.tmp 30) (.lit (.int .i64 1)), none⟩,
         ⟨some 32, .mx [.lit (.int .i64 0), .tmp 31], none⟩,
         ⟨some 33, .mkslice 1 8 [.int .u64 0] (.tmp 32) (.tmp 32), none⟩,
         ⟨some 10, .mov (.tmp 33), none⟩])
      (.seq (.seq (.ops [⟨some 34, .mov (.tmp 10), none⟩,
           ⟨some 35, .len 1 (.tmp 34), none⟩,
           ⟨some 36, .bin .sub .no (.tmp 35) (.lit (.int .i64 1)), none⟩,
           ⟨some 11, .mov (.tmp 36), none⟩])
        (.block 0 (.loop (.seq (.seq (.ops [⟨some 37, .mov (.tmp 11), none⟩,
               ⟨some 38, .bin .geq .no (.tmp 37) (.lit (.int .i64 0)), none⟩])
            (.cond (.tmp 38) .skip (.exit 0)))
           (.seq (.block 1 (.block 2 (.loop (.seq (.seq (.ops [⟨some 41, .mov (.tmp 9), none⟩,
                    ⟨some 42, .mov (.tmp 11), none⟩,
                    ⟨some 43, .slice 1 (.tmp 41) (some (.tmp 42)) none none, none⟩,
                    ⟨some 44, .mov (.tmp 7), none⟩,
                    ⟨some 45, .call (.lit (.fn (.func 109) [] [])) [.tmp 43, .tmp 44], none⟩,
                    ⟨some 46, .un .not (.tmp 45), none⟩])
                 (.cond (.tmp 46) .skip (.exit 2)))
                (.block 3 (.seq (.draw [(⟨some 47, .mov (.tmp 9), none⟩, 0),
                     (⟨some 48, .mov (.tmp 11), none⟩, 0),
                     (⟨some 49, .mov (.tmp 8), none⟩, 0),
                     (⟨some 50, .bin .add .no (.tmp 48) (.tmp 49), none⟩, 0),
                     (⟨some 51, .iaddr none 1 (.tmp 47) (.tmp 50), none⟩, 0),
                     (⟨some 52, .load none (.tmp 51), none⟩, 0),
                     (⟨some 53, .bin .shl .no (.tmp 52) (.lit (.int .u64 32)), none⟩, 0),
                     (⟨some 54, .mov (.tmp 9), none⟩, 0),
                     (⟨some 55, .mov (.tmp 11), none⟩, 0),
                     (⟨some 56, .mov (.tmp 8), none⟩, 0),
                     (⟨some 57, .bin .add .no (.tmp 55) (.tmp 56), none⟩, 0),
                     (⟨some 58, .bin .sub .no (.tmp 57) (.lit (.int .i64 1)), none⟩, 0),
                     (⟨some 59, .iaddr none 1 (.tmp 54) (.tmp 58), none⟩, 0),
                     (⟨some 60, .load none (.tmp 59), none⟩, 0),
                     (⟨some 61, .bin .add .no (.tmp 53) (.tmp 60), none⟩, 0),
                     (⟨some 62, .mov (.tmp 7), none⟩, 0),
                     (⟨some 63, .mov (.tmp 8), none⟩, 0),
                     (⟨some 64, .bin .sub .no (.tmp 63) (.lit (.int .i64 1)), none⟩, 0),
                     (⟨some 65, .iaddr none 1 (.tmp 62) (.tmp 64), none⟩, 0),
                     (⟨some 66, .load none (.tmp 65), none⟩, 0),
                     (⟨some 67, .bin .add .no (.tmp 66) (.lit (.int .u64 1)), none⟩, 0),
                     (⟨some 68, .bin .quo .no (.tmp 61) (.tmp 67), none⟩, 0),
                     (⟨some 69, .mx [.lit (.int .u64 1), .tmp 68], none⟩, 0),
                     (⟨some 12, .mov (.tmp 69), none⟩, 0)])
                  (.seq (.ops [⟨some 70, .mov (.tmp 10), none⟩,
                      ⟨some 71, .mov (.tmp 11), none⟩,
                      ⟨some 72, .mov (.tmp 10), none⟩,
                      ⟨some 73, .mov (.tmp 11), none⟩,
                      ⟨some 74, .iaddr none 1 (.tmp 72) (.tmp 73), none⟩,
                      ⟨some 75, .load none (.tmp 74), none⟩,
                      ⟨some 76, .mov (.tmp 12), none⟩,
                      ⟨some 77, .bin .add .no (.tmp 75) (.tmp 76), none⟩,
                      ⟨some 78, .iaddr none 1 (.tmp 70) (.tmp 71), none⟩,
                      ⟨none, .store 1 (.tmp 78) (.tmp 77), none⟩])
                   (.seq (.ops [⟨some 13, .mov (.lit (.int .u64 0)), none⟩])
                    (.seq (.seq (.ops [⟨some 14, .mov (.lit (.int .i64 0)), none⟩])
                      (.block 4 (.loop (.seq (.seq (.ops [⟨some 79, .mov (.tmp 14), none⟩,
                             ⟨some 80, .mov (.tmp 8), none⟩,
                             ⟨some 81, .bin .lss .no (.tmp 79) (.tmp 80), none⟩])
                          (.cond (.tmp 81) .skip (.exit 4)))
                         (.seq (.block 5 (.seq (.ops [⟨some 84, .mov (.tmp 7), none⟩,
                               ⟨some 85, .mov (.tmp 14), none⟩,
                               ⟨some 86, .iaddr none 1 (.tmp 84) (.tmp 85), none⟩,
                               ⟨some 87, .load none (.tmp 86), none⟩,
                               ⟨some 88, .mov (.tmp 12), none⟩,
                               ⟨some 89, .bin .mul .no (.tmp 87) (.tmp 88), none⟩,
                               ⟨some 90, .mov (.tmp 13), none⟩,
                               ⟨some 91, .bin .add .no (.tmp 89) (.tmp 90), none⟩,
                               ⟨some 15, .mov (.tmp 91), none⟩])
                            (.seq (.ops [⟨some 92, .mov (.tmp 15), none⟩,
                                ⟨some 93, .bin .shr .no (.tmp 92) (.lit (.int .u64 32)), none⟩,
                                ⟨some 13, .mov (.tmp 93), none⟩])
                             (.seq (.seq (.ops [⟨some 94, .mov (.tmp 9), none⟩,
                                  ⟨some 95, .mov (.tmp 11), none⟩,
                                  ⟨some 96, .mov (.tmp 14), none⟩,
                                  ⟨some 97, .bin .add .no (.tmp 95) (.tmp 96), none⟩,
                                  ⟨some 98, .iaddr none 1 (.tmp 94) (.tmp 97), none⟩,
                                  ⟨some 99, .load none (.tmp 98), none⟩,
                                  ⟨some 100, .mov (.tmp 15), none⟩,
                                  ⟨some 101, .bin .and .no (.tmp 100) (.lit (.int .u64 4294967295)), none⟩,
                                  ⟨some 102, .bin .lss .no (.tmp 99) (.tmp 101), none⟩])
                               (.cond (.tmp 102) (.seq (.ops [⟨some 103, .mov (.tmp 9), none⟩,
                                    ⟨some 104, .mov (.tmp 11), none⟩,
                                    ⟨some 105, .mov (.tmp 14), none⟩,
                                    ⟨some 106, .bin .add .no (.tmp 104) (.tmp 105), none⟩,
                                    ⟨some 107, .mov (.tmp 9), none⟩,
                                    ⟨some 108, .mov (.tmp 11), none⟩,
                                    ⟨some 109, .mov (.tmp 14), none⟩,
                                    ⟨some 110, .bin .add .no (.tmp 108) (.tmp 109), none⟩,
                                    ⟨some 111, .iaddr none 1 (.tmp 107) (.tmp 110), none⟩,
                                    ⟨some 112, .load none (.tmp 111), none⟩,
                                    ⟨some 113, .bin .add .no (.tmp 112) (.lit (.int .u64 4294967296)), none⟩,
                                    ⟨some 114, .iaddr none 1 (.tmp 103) (.tmp 106), none⟩,
                                    ⟨none, .store 1 (.tmp 114) (.tmp 113), none⟩])
                                 (.ops [⟨some 115, .mov (.tmp 13), none⟩,
                                    ⟨some 116, .bin .add .no (.tmp 115) (.lit (.int .u64 1)), none⟩,
                                    ⟨some 13, .mov (.tmp 116), none⟩])) .skip))
                              (.ops [⟨some 117, .mov (.tmp 9), none⟩,
                                 ⟨some 118, .mov (.tmp 11), none⟩,
                                 ⟨some 119, .mov (.tmp 14), none⟩,
                                 ⟨some 120, .bin .add .no (.tmp 118) (.tmp 119), none⟩,
                                 ⟨some 121, .mov (.tmp 9), none⟩,
                                 ⟨some 122, .mov (.tmp 11), none⟩,
                                 ⟨some 123, .mov (.tmp 14), none⟩,
                                 ⟨some 124, .bin .add .no (.tmp 122) (.tmp 123), none⟩,
                                 ⟨some 125, .iaddr none 1 (.tmp 121) (.tmp 124), none⟩,
                                 ⟨some 126, .load none (.tmp 125), none⟩,
                                 ⟨some 127, .mov (.tmp 15), none⟩,
                                 ⟨some 128, .bin .and .no (.tmp 127) (.lit (.int .u64 4294967295)), none⟩,
                                 ⟨some 129, .bin .sub .no (.tmp 126) (.tmp 128), none⟩,
                                 ⟨some 130, .iaddr none 1 (.tmp 117) (.tmp 120), none⟩,
                                 ⟨none, .store 1 (.tmp 130) (.tmp 129), none⟩])))))
                          (.ops [⟨some 82, .mov (.tmp 14), none⟩,
                             ⟨some 83, .bin .add .no (.tmp 82) (.lit (.int .i64 1)), none⟩,
                             ⟨some 14, .mov (.tmp 83), none⟩]))))))
                     (.ops [⟨some 131, .mov (.tmp 9), none⟩,
                        ⟨some 132, .mov (.tmp 11), none⟩,
                        ⟨some 133, .mov (.tmp 8), none⟩,
                        ⟨some 134, .bin .add .no (.tmp 132) (.tmp 133), none⟩,
                        ⟨some 135, .mov (.tmp 9), none⟩,
                        ⟨some 136, .mov (.tmp 11), none⟩,
                        ⟨some 137, .mov (.tmp 8), none⟩,
                        ⟨some 138, .bin .add .no (.tmp 136) (.tmp 137), none⟩,
                        ⟨some 139, .iaddr none 1 (.tmp 135) (.tmp 138), none⟩,
                        ⟨some 140, .load none (.tmp 139), none⟩,
                        ⟨some 141, .mov (.tmp 13), none⟩,
                        ⟨some 142, .bin .sub .no (.tmp 140) (.tmp 141), none⟩,
                        ⟨some 143, .iaddr none 1 (.tmp 131) (.tmp 134), none⟩,
                        ⟨none, .store 1 (.tmp 143) (.tmp 142), none⟩]))))))))))
            (.ops [⟨some 39, .mov (.tmp 11), none⟩,
               ⟨some 40, .bin .sub .no (.tmp 39) (.lit (.int .i64 1)), none⟩,
               ⟨some 11, .mov (.tmp 40), none⟩]))))))
       (.seq (.ops [⟨some 144, .mov (.tmp 10), none⟩,
           ⟨some 145, .call (.lit (.fn (.func 105) [] [])) [.tmp 144], none⟩,
           ⟨some 146, .mov (.tmp 9), none⟩,
           ⟨some 147, .call (.lit (.fn (.func 105) [] [])) [.tmp 146], none⟩,
           ⟨some 4, .mov (.tmp 145), none⟩,
           ⟨some 5, .mov (.tmp 147), none⟩])
        .ret)))))))⟩
theorem ok102 : FnOK Go.Proofs.Try.prog 102 af102 := ⟨Go.Proofs.Try.f102, Go.Proofs.Try.func102, by kernel_rfl, by kernel_rfl⟩
def af103 : AFn := ⟨19, [.tmp 4], .seq (.ops [⟨some 4, .mov (.lit (.int .i64 0)), none⟩])
 (.seq (.seq (.ops [⟨some 6, .mov (.tmp 0), none⟩,
      ⟨some 7, .len 1 (.tmp 6), none⟩,
      ⟨some 8, .mov (.lit (.int .i64 0)), none⟩])
   (.block 0 (.loop (.seq (.ops [⟨some 9, .bin .lss .no (.tmp 8) (.tmp 7), none⟩])
      (.seq (.cond (.tmp 9) .skip (.exit 0))
       (.seq (.block 1 (.seq (.ops [⟨some 10, .mov (.tmp 8), none⟩,
             ⟨some 5, .mov (.tmp 10), none⟩])
          (.seq (.ops [⟨some 11, .mov (.tmp 1), none⟩,
              ⟨some 12, .mov (.tmp 0), none⟩,
              ⟨some 13, .mov (.tmp 5), none⟩,
              ⟨some 14, .iaddr none 1 (.tmp 12) (.tmp 13), none⟩,
              ⟨some 15, .load none (.tmp 14), none⟩,
              ⟨some 16, .call (.tmp 11) [.tmp 15], none⟩])
           (.cond (.tmp 16) (.seq (.ops [⟨some 17, .mov (.tmp 5), none⟩,
                ⟨some 4, .mov (.tmp 17), none⟩])
             .ret) .skip))))
        (.ops [⟨some 18, .bin .add .no (.tmp 8) (.lit (.int .i64 1)), none⟩,
           ⟨some 8, .mov (.tmp 18), none⟩])))))))
  (.seq (.ops [⟨some 4, .mov (.lit (.int .i64 (-1))), none⟩])
   .ret))⟩
theorem ok103 : FnOK Go.Proofs.Try.prog 103 af103 := ⟨Go.Proofs.Try.f103, Go.Proofs.Try.func103, by kernel_rfl, by kernel_rfl⟩
def af104 : AFn := ⟨22, [], .seq (.ops [⟨some 4, .mov (.lit (.int .i64 0)), none⟩])
 (.seq (.block 0 (.loop (.seq (.seq (.ops [⟨some 5, .load none (.tmp 1), none⟩,
         ⟨some 6, .mov (.tmp 0), none⟩,
         ⟨some 7, .bin .rem .no (.tmp 5) (.tmp 6), none⟩,
         ⟨some 8, .bin .eql .no (.tmp 7) (.lit (.int .i64 0)), none⟩])
      (.cond (.tmp 8) .skip (.exit 0)))
     (.block 1 (.seq (.ops [⟨some 9, .load none (.tmp 1), none⟩,
          ⟨some 10, .mov (.tmp 0), none⟩,
          ⟨some 11, .bin .quo .no (.tmp 9) (.tmp 10), none⟩,
          ⟨none, .store 1 (.tmp 1) (.tmp 11), none⟩])
       (.ops [⟨some 12, .mov (.tmp 4), none⟩,
          ⟨some 13, .bin .add .no (.tmp 12) (.lit (.int .i64 1)), none⟩,
          ⟨some 4, .mov (.tmp 13), none⟩]))))))
  (.seq (.ops [⟨some 14, .mov (.tmp 4), none⟩,
      ⟨some 15, .bin .gtr .no (.tmp 14) (.lit (.int .i64 0)), none⟩])
   (.cond (.tmp 15) (.ops [⟨some 16, .load none (.tmp 2), none⟩,
       ⟨some 17, .mov (.tmp 0), none⟩,
       ⟨some 18, .mov (.tmp 4), none⟩,
       ⟨some 19, .build [.int .i64 0, .int .i64 0] [(0, (1, .tmp 17)), (1, (1, .tmp 18))], none⟩,
       ⟨some 20, .bslice 1 2 [.int .i64 0, .int .i64 0] [(0, .tmp 19)], none⟩,
       ⟨some 21, .append 2 16 [.int .i64 0, .int .i64 0] (.tmp 16) (.tmp 20), none⟩,
       ⟨none, .store 1 (.tmp 2) (.tmp 21), none⟩]) .skip)))⟩
theorem ok104 : FnOK Go.Proofs.Try.prog 104 af104 := ⟨Go.Proofs.Try.f104, Go.Proofs.Try.func104, by kernel_rfl, by kernel_rfl⟩
def af105 : AFn := ⟨38, [.tmp 2], .seq (.ops [⟨some 2, .mov (.lit (.str [])), none⟩])
 (.seq (.ops [⟨some 3, .mov (.lit .nils), none⟩])
  (.seq (.seq (.ops [⟨some 7, .mov (.tmp 0), none⟩,
       ⟨some 8, .len 1 (.tmp 7), none⟩,
       ⟨some 9, .bin .sub .no (.tmp 8) (.lit (.int .i64 1)), none⟩,
       ⟨some 4, .mov (.tmp 9), none⟩])
    (.block 0 (.loop (.seq (.seq (.ops [⟨some 10, .mov (.tmp 4), none⟩,
           ⟨some 11, .bin .geq .no (.tmp 10) (.lit (.int .i64 0)), none⟩])
        (.cond (.tmp 11) .skip (.exit 0)))
       (.seq (.block 1 (.seq (.ops [⟨some 5, .mov (.lit (.int .i64 24)), none⟩])
          (.block 2 (.loop (.seq (.seq (.ops [⟨some 14, .mov (.tmp 5), none⟩,
                 ⟨some 15, .bin .geq .no (.tmp 14) (.lit (.int .i64 0)), none⟩])
              (.cond (.tmp 15) .skip (.exit 2)))
             (.seq (.block 3 (.seq (.ops [⟨some 18, .mov (.tmp 0), none⟩,
                   ⟨some 19, .mov (.tmp 4), none⟩,
                   ⟨some 20, .iaddr none 1 (.tmp 18) (.tmp 19), none⟩,
                   ⟨some 21, .load none (.tmp 20), none⟩,
                   ⟨some 22, .mov (.tmp 5), none⟩,
                   ⟨some 23, .bin .shr .no (.tmp 21) (.tmp 22), none⟩,
                   ⟨some 24, .toInt .u8 (.tmp 23), none⟩,
                   ⟨some 6, .mov (.tmp 24), none⟩])
                (.seq (.ops [⟨some 25, .mov (.tmp 3), none⟩,
                    ⟨some 26, .len 1 (.tmp 25), none⟩,
                    ⟨some 27, .bin .gtr .no (.tmp 26) (.lit (.int .i64 0)), none⟩,
                    ⟨some 28, .mov (.tmp 27), none⟩,
                    ⟨some 29, .mov (.tmp 6), some (28, false)⟩,
                    ⟨some 30, .bin .gtr .no (.tmp 29) (.lit (.int .u8 0)), some (28, false)⟩,
                    ⟨some 31, .pick (.tmp 28) (.lit (.bool true)) (.tmp 30), none⟩])
                 (.cond (.tmp 31) (.ops [⟨some 32, .mov (.tmp 3), none⟩,
                     ⟨some 33, .mov (.tmp 6), none⟩,
                     ⟨some 34, .bslice 1 1 [.int .u8 0] [(0, .tmp 33)], none⟩,
                     ⟨some 35, .append 1 1 [.int .u8 0] (.tmp 32) (.tmp 34), none⟩,
                     ⟨some 3, .mov (.tmp 35), none⟩]) .skip))))
              (.ops [⟨some 16, .mov (.tmp 5), none⟩,
                 ⟨some 17, .bin .sub .no (.tmp 16) (.lit (.int .i64 8)), none⟩,
                 ⟨some 5, .mov (.tmp 17), none⟩])))))))
        (.ops [⟨some 12, .mov (.tmp 4), none⟩,
           ⟨some 13, .bin .sub .no (.tmp 12) (.lit (.int .i64 1)), none⟩,
           ⟨some 4, .mov (.tmp 13), none⟩]))))))
   (.seq (.ops [⟨some 36, .mov (.tmp 3), none⟩,
       ⟨some 37, .toStr (.tmp 36), none⟩,
       ⟨some 2, .mov (.tmp 37), none⟩])
    .ret)))⟩
theorem ok105 : FnOK Go.Proofs.Try.prog 105 af105 := ⟨Go.Proofs.Try.f105, Go.Proofs.Try.func105, by kernel_rfl, by kernel_rfl⟩
def af106 : AFn := ⟨55, [.tmp 2], .seq (.ops [⟨some 2, .mov (.lit (.str [])), none⟩])
 (.seq (.ops [⟨some 8, .mov (.tmp 0), none⟩,
     ⟨some 9, .call (.lit (.fn (.func 110) [] [])) [.tmp 8], none⟩,
     ⟨some 0, .mov (.tmp 9), none⟩])
  (.seq (.seq (.ops [⟨some 10, .mov (.tmp 0), none⟩,
       ⟨some 11, .len 1 (.tmp 10), none⟩,
       ⟨some 12, .bin .eql .no (.tmp 11) (.lit (.int .i64 0)), none⟩])
    (.cond (.tmp 12) (.seq (.ops [⟨some 2, .mov (.lit (.str [])), none⟩])
      .ret) .skip))
   (.seq (.ops [⟨some 13, .mov (.tmp 0), none⟩,
       ⟨some 14, .len 1 (.tmp 13), none⟩,
       ⟨some 15, .bin .mul .no (.lit (.int .i64 8)) (.tmp 14), none⟩,
       ⟨some 16, .mkslice 1 1 [.int .u8 0] (.tmp 15) (.tmp 15), none⟩,
       ⟨some 3, .mov (.tmp 16), none⟩])
    (.seq (.seq (.ops [⟨some 17, .mov (.tmp 0), none⟩,
         ⟨some 18, .len 1 (.tmp 17), none⟩,
         ⟨some 19, .mov (.lit (.int .i64 0)), none⟩])
      (.block 0 (.loop (.seq (.ops [⟨some 20, .bin .lss .no (.tmp 19) (.tmp 18), none⟩])
         (.seq (.cond (.tmp 20) .skip (.exit 0))
          (.seq (.block 1 (.seq (.ops [⟨some 21, .mov (.tmp 19), none⟩,
                ⟨some 22, .iaddr none 1 (.tmp 17) (.tmp 19), none⟩,
                ⟨some 23, .load none (.tmp 22), none⟩,
                ⟨some 4, .mov (.tmp 21), none⟩,
                ⟨some 5, .mov (.tmp 23), none⟩])
             (.seq (.ops [⟨some 24, .mov (.lit (.int .i64 0)), none⟩])
              (.block 2 (.loop (.seq (.ops [⟨some 25, .bin .lss .no (.tmp 24) (.lit (.int .i64 8)), none⟩])
                 (.seq (.cond (.tmp 25) .skip (.exit 2))
                  (.seq (.block 3 (.seq (.ops [⟨some 26, .mov (.tmp 24), none⟩,
                        ⟨some 6, .mov (.tmp 26), none⟩])
                     (.ops [⟨some 27, .mov (.tmp 3), none⟩,
                        ⟨some 28, .mov (.tmp 3), none⟩,
                        ⟨some 29, .len 1 (.tmp 28), none⟩,
                        ⟨some 30, .bin .sub .no (.tmp 29) (.lit (.int .i64 1)), none⟩,
                        ⟨some 31, .mov (.tmp 4), none⟩,
                        ⟨some 32, .bin .mul .no (.lit (.int .i64 8)) (.tmp 31), none⟩,
                        ⟨some 33, .bin .sub .no (.tmp 30) (.tmp 32), none⟩,
                        ⟨some 34, .mov (.tmp 6), none⟩,
                        ⟨some 35, .bin .sub .no (.tmp 33) (.tmp 34), none⟩,
                        ⟨some 36, .mov (.tmp 5), none⟩,
                        ⟨some 37, .mov (.tmp 6), none⟩,
                        ⟨some 38, .bin .mul .no (.lit (.int .i64 8)) (.tmp 37), none⟩,
                        ⟨some 39, .bin .shr .no (.tmp 36) (.tmp 38), none⟩,
                        ⟨some 40, .toInt .u8 (.tmp 39), none⟩,
                        ⟨some 41, .iaddr none 1 (.tmp 27) (.tmp 35), none⟩,
                        ⟨none, .store 1 (.tmp 41) (.tmp 40), none⟩])))
                   (.ops [⟨some 42, .bin .add .no (.tmp 24) (.lit (.int .i64 1)), none⟩,
                      ⟨some 24, .mov (.tmp 42), none⟩])))))))))
           (.ops [⟨some 43, .bin .add .no (.tmp 19) (.lit (.int .i64 1)), none⟩,
              ⟨some 19, .mov (.tmp 43), none⟩])))))))
     (.seq (.ops [⟨some 7, .mov (.lit (.int .i64 0)), none⟩])
      (.seq (.block 4 (.loop (.seq (.seq (.ops [⟨some 44, .mov (.tmp 3), none⟩,
              ⟨some 45, .mov (.tmp 7), none⟩,
              ⟨some 46, .iaddr none 1 (.tmp 44) (.tmp 45), none⟩,
              ⟨some 47, .load none (.tmp 46), none⟩,
              ⟨some 48, .bin .eql .no (.tmp 47) (.lit (.int .u8 0)), none⟩])
           (.cond (.tmp 48) .skip (.exit 4)))
          (.block 5 (.ops [⟨some 49, .mov (.tmp 7), none⟩,
              ⟨some 50, .bin .add .no (.tmp 49) (.lit (.int .i64 1)), none⟩,
              ⟨some 7, .mov (.tmp 50), none⟩])))))
       (.seq (.ops [⟨some 51, .mov (.tmp 3), none⟩,
           ⟨some 52, .mov (.tmp 7), none⟩,
           ⟨some 53, .slice 1 (.tmp 51) (some (.tmp 52)) none none, none⟩,
           ⟨some 54, .toStr (.tmp 53), none⟩,
           ⟨some 2, .mov (.tmp 54), none⟩])
        .ret)))))))⟩
theorem ok106 : FnOK Go.Proofs.Try.prog 106 af106 := ⟨Go.Proofs.Try.f106, Go.Proofs.Try.func106, by kernel_rfl, by kernel_rfl⟩
def af107 : AFn := ⟨18, [.cell 2 (some 3)], .seq (.ops [⟨some 1, .box (.tmp 0), none⟩,
    ⟨some 2, .alloc [.bool false, .str [], .str []], none⟩])
 (.seq (.seq (.ops [⟨some 3, .faddr 0 (.tmp 1), none⟩,
      ⟨some 4, .faddr 1 (.tmp 3), none⟩,
      ⟨some 5, .load none (.tmp 4), none⟩,
      ⟨some 6, .bin .eql .no (.tmp 5) (.lit (.str [])), none⟩])
   (.cond (.tmp 6) (.seq (.ops [⟨some 7, .load (some 3) (.tmp 1), none⟩,
        ⟨none, .store 3 (.tmp 2) (.tmp 7), none⟩])
     .ret) .skip))
  (.seq (.ops [⟨some 8, .faddr 0 (.tmp 1), none⟩,
      ⟨some 9, .faddr 0 (.tmp 8), none⟩,
      ⟨some 10, .load none (.tmp 9), none⟩,
      ⟨some 11, .faddr 2 (.tmp 1), none⟩,
      ⟨some 12, .load none (.tmp 11), none⟩,
      ⟨some 13, .build [.bool false, .str []] [(0, (1, .tmp 10)), (1, (1, .tmp 12))], none⟩,
      ⟨some 14, .faddr 0 (.tmp 1), none⟩,
      ⟨some 15, .faddr 1 (.tmp 14), none⟩,
      ⟨some 16, .load none (.tmp 15), none⟩,
      ⟨some 17, .build [.bool false, .str [], .str []] [(0, (2, .tmp 13)), (2, (1, .tmp 16))], none⟩,
      ⟨none, .store 3 (.tmp 2) (.tmp 17), none⟩])
   .ret))⟩
theorem ok107 : FnOK Go.Proofs.Try.prog 107 af107 := ⟨Go.Proofs.Try.f107, Go.Proofs.Try.func107, by kernel_rfl, by kernel_rfl⟩
def af108 : AFn := ⟨34, [.tmp 2], .seq (.ops [⟨some 2, .mov (.lit .nils), none⟩])
 (.seq (.ops [⟨some 3, .mov (.lit .nils), none⟩])
  (.seq (.seq (.ops [⟨some 7, .mov (.tmp 0), none⟩,
       ⟨some 8, .len 0 (.tmp 7), none⟩,
       ⟨some 4, .mov (.tmp 8), none⟩])
    (.block 0 (.loop (.seq (.seq (.ops [⟨some 9, .mov (.tmp 4), none⟩,
           ⟨some 10, .bin .gtr .no (.tmp 9) (.lit (.int .i64 0)), none⟩])
        (.cond (.tmp 10) .skip (.exit 0)))
       (.seq (.block 1 (.seq (.ops [⟨some 5, .mov (.lit (.int .u64 0)), none⟩])
          (.seq (.seq (.ops [⟨some 13, .mov (.tmp 4), none⟩,
               ⟨some 14, .bin .sub .no (.tmp 13) (.lit (.int .i64 4)), none⟩,
               ⟨some 15, .mx [.lit (.int .i64 0), .tmp 14], none⟩,
               ⟨some 6, .mov (.tmp 15), none⟩])
            (.block 2 (.loop (.seq (.seq (.ops [⟨some 16, .mov (.tmp 6), none⟩,
                   ⟨some 17, .mov (.tmp 4), none⟩,
                   ⟨some 18, .bin .lss .no (.tmp 16) (.tmp 17), none⟩])
                (.cond (.tmp 18) .skip (.exit 2)))
               (.seq (.block 3 (.ops [⟨some 21, .mov (.tmp 5), none⟩,
                    ⟨some 22, .bin .mul .no (.tmp 21) (.lit (.int .u64 256)), none⟩,
                    ⟨some 23, .mov (.tmp 0), none⟩,
                    ⟨some 24, .mov (.tmp 6), none⟩,
                    ⟨some 25, .indexS (.tmp 23) (.tmp 24), none⟩,
                    ⟨some 26, .toInt .u64 (.tmp 25), none⟩,
                    ⟨some 27, .bin .add .no (.tmp 22) (.tmp 26), none⟩,
                    ⟨some 5, .mov (.tmp 27), none⟩]))
                (.ops [⟨some 19, .mov (.tmp 6), none⟩,
                   ⟨some 20, .bin .add .no (.tmp 19) (.lit (.int .i64 1)), none⟩,
                   ⟨some 6, .mov (.tmp 20), none⟩]))))))
           (.ops [⟨some 28, .mov (.tmp 3), none⟩,
              ⟨some 29, .mov (.tmp 5), none⟩,
              ⟨some 30, .bslice 1 1 [.int .u64 0] [(0, .tmp 29)], none⟩,
              ⟨some 31, .append 1 8 [.int .u64 0] (.tmp 28) (.tmp 30), none⟩,
              ⟨some 3, .mov (.tmp 31), none⟩]))))
        (.ops [⟨some 11, .mov (.tmp 4), none⟩,
           ⟨some 12, .bin .sub .no (.tmp 11) (.lit (.int .i64 4)), none⟩,
           ⟨some 4, .mov (.tmp 12), none⟩]))))))
   (.seq (.ops [⟨some 32, .mov (.tmp 3), none⟩,
       ⟨some 33, .call (.lit (.fn (.func 111) [] [])) [.tmp 32], none⟩,
       ⟨some 2, .mov (.tmp 33), none⟩])
    .ret)))⟩
theorem ok108 : FnOK Go.Proofs.Try.prog 108 af108 := ⟨Go.Proofs.Try.f108, Go.Proofs.Try.func108, by kernel_rfl, by kernel_rfl⟩
def af109 : AFn := ⟨43, [.tmp 4], .seq (.ops [⟨some 4, .mov (.lit (.bool false)), none⟩])
 (.seq (.ops [⟨some 6, .mov (.tmp 0), none⟩,
     ⟨some 7, .call (.lit (.fn (.func 111) [] [])) [.tmp 6], none⟩,
     ⟨some 0, .mov (.tmp 7), none⟩])
  (.seq (.seq (.ops [⟨some 8, .mov (.tmp 0), none⟩,
       ⟨some 9, .len 1 (.tmp 8), none⟩,
       ⟨some 10, .mov (.tmp 1), none⟩,
       ⟨some 11, .len 1 (.tmp 10), none⟩,
       ⟨some 12, .bin .neq .no (.tmp 9) (.tmp 11), none⟩])
    (.cond (.tmp 12) (.seq (.ops [⟨some 13, .mov (.tmp 0), none⟩,
         ⟨some 14, .len 1 (.tmp 13), none⟩,
         ⟨some 15, .mov (.tmp 1), none⟩,
         ⟨some 16, .len 1 (.tmp 15), none⟩,
         ⟨some 17, .bin .lss .no (.tmp 14) (.tmp 16), none⟩,
         ⟨some 4, .mov (.tmp 17), none⟩])
      .ret) .skip))
   (.seq (.seq (.ops [⟨some 18, .mov (.tmp 0), none⟩,
        ⟨some 19, .len 1 (.tmp 18), none⟩,
        ⟨some 20, .bin .sub .no (.tmp 19) (.lit (.int .i64 1)), none⟩,
        ⟨some 5, .mov (.tmp 20), none⟩])
     (.block 0 (.loop (.seq (.seq (.ops [⟨some 21, .mov (.tmp 5), none⟩,
            ⟨some 22, .bin .geq .no (.tmp 21) (.lit (.int .i64 0)), none⟩])
         (.cond (.tmp 22) .skip (.exit 0)))
        (.seq (.block 1 (.seq (.draw [(⟨some 25, .mov (.tmp 0), none⟩, 0),
              (⟨some 26, .mov (.tmp 5), none⟩, 0),
              (⟨some 27, .iaddr none 1 (.tmp 25) (.tmp 26), none⟩, 0),
              (⟨some 28, .load none (.tmp 27), none⟩, 0),
              (⟨some 29, .mov (.tmp 1), none⟩, 0),
              (⟨some 30, .mov (.tmp 5), none⟩, 0),
              (⟨some 31, .iaddr none 1 (.tmp 29) (.tmp 30), none⟩, 0),
              (⟨some 32, .load none (.tmp 31), none⟩, 0),
              (⟨some 33, .bin .neq .no (.tmp 28) (.tmp 32), none⟩, 0)])
           (.cond (.tmp 33) (.seq (.draw [(⟨some 34, .mov (.tmp 0), none⟩, 0),
                (⟨some 35, .mov (.tmp 5), none⟩, 0),
                (⟨some 36, .iaddr none 1 (.tmp 34) (.tmp 35), none⟩, 0),
                (⟨some 37, .load none (.tmp 36), none⟩, 0),
                (⟨some 38, .mov (.tmp 1), none⟩, 0),
                (⟨some 39, .mov (.tmp 5), none⟩, 0),
                (⟨some 40, .iaddr none 1 (.tmp 38) (.tmp 39), none⟩, 0),
                (⟨some 41, .load none (.tmp 40), none⟩, 0),
                (⟨some 42, .bin .lss .no (.tmp 37) (.tmp 41), none⟩, 0),
                (⟨some 4, .mov (.tmp 42), none⟩, 0)])
             .ret) .skip)))
         (.ops [⟨some 23, .mov (.tmp 5), none⟩,
            ⟨some 24, .bin .sub .no (.tmp 23) (.lit (.int .i64 1)), none⟩,
            ⟨some 5, .mov (.tmp 24), none⟩]))))))
    (.seq (.ops [⟨some 4, .mov (.lit (.bool false)), none⟩])
     .ret))))⟩
theorem ok109 : FnOK Go.Proofs.Try.prog 109 af109 := ⟨Go.Proofs.Try.f109, Go.Proofs.Try.func109, by kernel_rfl, by kernel_rfl⟩
def af110 : AFn := ⟨21, [.tmp 2], .seq (.ops [⟨some 2, .mov (.lit .nils), none⟩])
 (.seq (.ops [⟨some 4, .mov (.tmp 0), none⟩,
     ⟨some 5, .len 1 (.tmp 4), none⟩,
     ⟨some 3, .mov (.tmp 5), none⟩])
  (.seq (.block 0 (.loop (.seq (.seq (.ops [⟨some 6, .mov (.tmp 3), none⟩,
          ⟨some 7, .bin .gtr .no (.tmp 6) (.lit (.int .i64 0)), none⟩,
          ⟨some 8, .mov (.tmp 7), none⟩,
          ⟨some 9, .mov (.tmp 0), some (8, true)⟩,
          ⟨some 10, .mov (.tmp 3), some (8, true)⟩,
          ⟨some 11, .bin .sub .no (.tmp 10) (.lit (.int .i64 1)), some (8, true)⟩,
          ⟨some 12, .iaddr none 1 (.tmp 9) (.tmp 11), some (8, true)⟩,
          ⟨some 13, .load none (.tmp 12), some (8, true)⟩,
          ⟨some 14, .bin .eql .no (.tmp 13) (.lit (.int .u64 0)), some (8, true)⟩,
          ⟨some 15, .pick (.tmp 8) (.tmp 14) (.lit (.bool false)), none⟩])
       (.cond (.tmp 15) .skip (.exit 0)))
      (.block 1 (.ops [⟨some 16, .mov (.tmp 3), none⟩,
          ⟨some 17, .bin .sub .no (.tmp 16) (.lit (.int .i64 1)), none⟩,
          ⟨some 3, .mov (.tmp 17), none⟩])))))
   (.seq (.ops [⟨some 18, .mov (.tmp 0), none⟩,
       ⟨some 19, .mov (.tmp 3), none⟩,
       ⟨some 20, .slice 1 (.tmp 18) none (some (.tmp 19)) none, none⟩,
       ⟨some 2, .mov (.tmp 20), none⟩])
    .ret)))⟩
theorem ok110 : FnOK Go.Proofs.Try.prog 110 af110 := ⟨Go.Proofs.Try.f110, Go.Proofs.Try.func110, by kernel_rfl, by kernel_rfl⟩
def af111 : AFn := ⟨21, [.tmp 2], .seq (.ops [⟨some 2, .mov (.lit .nils), none⟩])
 (.seq (.block 0 (.loop (.seq (.seq (.ops [⟨some 3, .mov (.tmp 0), none⟩,
         ⟨some 4, .len 1 (.tmp 3), none⟩,
         ⟨some 5, .bin .gtr .no (.tmp 4) (.lit (.int .i64 0)), none⟩,
         ⟨some 6, .mov (.tmp 5), none⟩,
         ⟨some 7, .mov (.tmp 0), some (6, true)⟩,
         ⟨some 8, .mov (.tmp 0), some (6, true)⟩,
         ⟨some 9, .len 1 (.tmp 8), some (6, true)⟩,
         ⟨some 10, .bin .sub .no (.tmp 9) (.lit (.int .i64 1)), some (6, true)⟩,
         ⟨some 11, .iaddr none 1 (.tmp 7) (.tmp 10), some (6, true)⟩,
         ⟨some 12, .load none (.tmp 11), some (6, true)⟩,
         ⟨some 13, .bin .eql .no (.tmp 12) (.lit (.int .u64 0)), some (6, true)⟩,
         ⟨some 14, .pick (.tmp 6) (.tmp 13) (.lit (.bool false)), none⟩])
      (.cond (.tmp 14) .skip (.exit 0)))
     (.block 1 (.ops [⟨some 15, .mov (.tmp 0), none⟩,
         ⟨some 16, .mov (.tmp 0), none⟩,
         ⟨some 17, .len 1 (.tmp 16), none⟩,
         ⟨some 18, .bin .sub .no (.tmp 17) (.lit (.int .i64 1)), none⟩,
         ⟨some 19, .slice 1 (.tmp 15) none (some (.tmp 18)) none, none⟩,
         ⟨some 0, .mov (.tmp 19), none⟩])))))
  (.seq (.ops [⟨some 20, .mov (.tmp 0), none⟩,
      ⟨some 2, .mov (.tmp 20), none⟩])
   .ret))⟩
theorem ok111 : FnOK Go.Proofs.Try.prog 111 af111 := ⟨Go.Proofs.Try.f111, Go.Proofs.Try.func111, by kernel_rfl, by kernel_rfl⟩
end Go.AM
