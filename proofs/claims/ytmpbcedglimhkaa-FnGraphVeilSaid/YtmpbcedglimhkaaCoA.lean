/- The annotated code of the functions that the law reaches. -/
import Derived.Test.YtmpbcedglimhkaaAnC
import Derived.Test.YtmpbcedglimhkaaProg
import Derived.KernelRfl
section
set_option maxRecDepth 100000
namespace Go.Am
open Go.Proofs
/-- spec.l6Open -/
def c36 : AC :=
 (.seq
  (.reg [] [⟨some 2, .move, [.k (.sc (.pointer none))], none⟩] [0] [7])
  (.seq
   (.seq
    (.reg [] [⟨some 3, .move, [.t 0], none⟩,
      ⟨some 4, .len, [.t 3], none⟩,
      ⟨some 5, .bin .gt, [.t 4, .k (.i 2000)], none⟩] [0, 5] [7])
    (.cond (.t 5)
     (.reg [] [⟨some 6, .move, [.t 0], none⟩,
       ⟨some 7, .slice 1 false true, [.t 6, .k (.i 2000)], none⟩,
       ⟨some 0, .move, [.t 7], none⟩] [0] [7])
     .skip))
   (.seq
    (.reg [] [⟨some 8, .move, [.t 0], none⟩,
      ⟨some 9, .build [.nils, .i 0] [(0, 1)], [.t 8], none⟩,
      ⟨some 10, .box, [.t 9], none⟩,
      ⟨some 2, .move, [.t 10], none⟩] [2] [7, 10])
    .ret)))
def a36 : AF := ⟨c36, [.tmp 2]⟩
/-- spec.l6Rd).pick -/
def c53 : AC :=
 (.seq
  (.reg [] [⟨some 4, .move, [.k (.i 0)], none⟩] [0, 1] [])
  (.seq
   (.reg [] [⟨some 7, .move, [.t 0], none⟩,
     ⟨some 8, .move, [.t 0], none⟩,
     ⟨some 9, .nck, [.t 8], none⟩,
     ⟨some 10, .faddr 1, [.t 9], none⟩,
     ⟨some 11, .load none false, [.t 10], none⟩,
     ⟨some 12, .bin .add, [.t 11, .k (.i 1)], none⟩,
     ⟨some 13, .nck, [.t 7], none⟩,
     ⟨some 14, .faddr 1, [.t 13], none⟩,
     ⟨none, .store 1 true, [.t 14, .t 12], none⟩] [0, 1] [])
   (.seq
    (.seq
     (.reg [] [⟨some 15, .move, [.t 1], none⟩,
       ⟨some 16, .bin .lt, [.t 15, .k (.i 1)], none⟩,
       ⟨some 17, .move, [.t 16], none⟩,
       ⟨some 18, .move, [.t 0], some (17, false)⟩,
       ⟨some 19, .nck, [.t 18], some (17, false)⟩,
       ⟨some 20, .faddr 0, [.t 19], some (17, false)⟩,
       ⟨some 21, .load none false, [.t 20], some (17, false)⟩,
       ⟨some 22, .len, [.t 21], some (17, false)⟩,
       ⟨some 23, .bin .eq, [.t 22, .k (.i 0)], some (17, false)⟩,
       ⟨some 24, .pick, [.t 17, .k (.b true), .t 23], none⟩] [0, 1, 24] [])
     (.cond (.t 24)
      (.seq
       (.reg [] [⟨some 4, .move, [.k (.i 0)], none⟩] [4] [])
       .ret)
      .skip))
    (.seq
     (.reg [] [⟨some 25, .move, [.t 0], none⟩,
       ⟨some 26, .nck, [.t 25], none⟩,
       ⟨some 27, .faddr 1, [.t 26], none⟩,
       ⟨some 28, .load none false, [.t 27], none⟩,
       ⟨some 29, .bin .sub, [.t 28, .k (.i 1)], none⟩,
       ⟨some 5, .move, [.t 29], none⟩] [0, 1, 5] [])
     (.seq
      (.seq
       (.reg [] [⟨some 30, .move, [.t 5], none⟩,
         ⟨some 31, .move, [.t 0], none⟩,
         ⟨some 32, .nck, [.t 31], none⟩,
         ⟨some 33, .faddr 0, [.t 32], none⟩,
         ⟨some 34, .load none false, [.t 33], none⟩,
         ⟨some 35, .len, [.t 34], none⟩,
         ⟨some 36, .bin .lt, [.t 30, .t 35], none⟩] [0, 1, 5, 36] [])
       (.cond (.t 36)
        (.seq
         (.reg [] [⟨some 37, .move, [.t 0], none⟩,
           ⟨some 38, .nck, [.t 37], none⟩,
           ⟨some 39, .faddr 0, [.t 38], none⟩,
           ⟨some 40, .load none false, [.t 39], none⟩,
           ⟨some 41, .move, [.t 5], none⟩,
           ⟨some 42, .iaddr 1, [.t 40, .t 41], none⟩,
           ⟨some 43, .load none false, [.t 42], none⟩,
           ⟨some 44, .conv .i64, [.t 43], none⟩,
           ⟨some 45, .move, [.t 1], none⟩,
           ⟨some 46, .bin .rem, [.t 44, .t 45], none⟩,
           ⟨some 4, .move, [.t 46], none⟩] [4] [])
         .ret)
        .skip))
      (.seq
       (.reg [0, 1, 2, 3, 4, 5, 6, 7, 8, 9, 10, 11, 12, 13, 14, 15, 16, 17, 18, 19, 20, 21, 22, 23, 24, 25, 26, 27, 28, 29, 30, 31, 32, 33, 34, 35, 36, 37, 38, 39, 40, 41, 42, 43, 44, 45] [⟨some 47, .move, [.t 0], none⟩,
         ⟨some 48, .nck, [.t 47], none⟩,
         ⟨some 49, .faddr 0, [.t 48], none⟩,
         ⟨some 50, .load none false, [.t 49], none⟩,
         ⟨some 51, .move, [.t 5], none⟩,
         ⟨some 52, .move, [.t 0], none⟩,
         ⟨some 53, .nck, [.t 52], none⟩,
         ⟨some 54, .faddr 0, [.t 53], none⟩,
         ⟨some 55, .load none false, [.t 54], none⟩,
         ⟨some 56, .len, [.t 55], none⟩,
         ⟨some 57, .bin .rem, [.t 51, .t 56], none⟩,
         ⟨some 58, .iaddr 1, [.t 50, .t 57], none⟩,
         ⟨some 59, .load none false, [.t 58], none⟩,
         ⟨some 60, .conv .i64, [.t 59], none⟩,
         ⟨some 61, .bin .mul, [.t 60, .k (.i 131)], none⟩,
         ⟨some 62, .move, [.t 0], none⟩,
         ⟨some 63, .nck, [.t 62], none⟩,
         ⟨some 64, .faddr 0, [.t 63], none⟩,
         ⟨some 65, .load none false, [.t 64], none⟩,
         ⟨some 66, .move, [.t 5], none⟩,
         ⟨some 67, .bin .mul, [.t 66, .k (.i 7)], none⟩,
         ⟨some 68, .bin .add, [.t 67, .k (.i 3)], none⟩,
         ⟨some 69, .move, [.t 0], none⟩,
         ⟨some 70, .nck, [.t 69], none⟩,
         ⟨some 71, .faddr 0, [.t 70], none⟩,
         ⟨some 72, .load none false, [.t 71], none⟩,
         ⟨some 73, .len, [.t 72], none⟩,
         ⟨some 74, .bin .rem, [.t 68, .t 73], none⟩,
         ⟨some 75, .iaddr 1, [.t 65, .t 74], none⟩,
         ⟨some 76, .load none false, [.t 75], none⟩,
         ⟨some 77, .conv .i64, [.t 76], none⟩,
         ⟨some 78, .bin .mul, [.t 77, .k (.i 1117)], none⟩,
         ⟨some 79, .bin .add, [.t 61, .t 78], none⟩,
         ⟨some 80, .move, [.t 5], none⟩,
         ⟨some 81, .bin .mul, [.t 80, .k (.i 29)], none⟩,
         ⟨some 82, .bin .add, [.t 79, .t 81], none⟩,
         ⟨some 83, .move, [.t 5], none⟩,
         ⟨some 84, .move, [.t 0], none⟩,
         ⟨some 85, .nck, [.t 84], none⟩,
         ⟨some 86, .faddr 0, [.t 85], none⟩,
         ⟨some 87, .load none false, [.t 86], none⟩,
         ⟨some 88, .len, [.t 87], none⟩,
         ⟨some 89, .bin .quo, [.t 83, .t 88], none⟩,
         ⟨some 90, .bin .mul, [.t 89, .k (.i 53)], none⟩,
         ⟨some 91, .bin .add, [.t 82, .t 90], none⟩,
         ⟨some 6, .move, [.t 91], none⟩] [1, 6] [])
       (.seq
        (.reg [] [⟨some 92, .move, [.t 6], none⟩,
          ⟨some 93, .move, [.t 6], none⟩,
          ⟨some 94, .bin .quo, [.t 93, .k (.i 64)], none⟩,
          ⟨some 95, .bin .xor, [.t 92, .t 94], none⟩,
          ⟨some 6, .move, [.t 95], none⟩] [1, 6] [])
        (.seq
         (.reg [] [⟨some 96, .move, [.t 6], none⟩,
           ⟨some 97, .move, [.t 1], none⟩,
           ⟨some 98, .bin .rem, [.t 96, .t 97], none⟩,
           ⟨some 4, .move, [.t 98], none⟩] [4] [])
         .ret))))))))
def a53 : AF := ⟨c53, [.tmp 4]⟩
/-- spec.l91Do -/
def c88 : AC :=
 (.seq
  (.reg [] [⟨some 2, .move, [.k (.i 0)], none⟩] [0] [])
  (.seq
   (.seq
    (.reg [] [⟨some 3, .move, [.t 0], none⟩,
      ⟨some 4, .call [] false, [.f 53, .t 3, .k (.i 3)], none⟩,
      ⟨some 5, .bin .gt, [.t 4, .k (.i 0)], none⟩] [0, 5] [])
    (.cond (.t 5)
     (.seq
      (.reg [] [⟨some 6, .move, [.t 0], none⟩,
        ⟨some 7, .call [] false, [.f 53, .t 6, .k (.i 5)], none⟩,
        ⟨some 8, .bin .sub, [.t 7, .k (.i 2)], none⟩,
        ⟨some 2, .move, [.t 8], none⟩] [2] [])
      .ret)
     .skip))
   (.seq
    (.reg [] [⟨some 9, .move, [.t 0], none⟩,
      ⟨some 10, .call [] false, [.f 53, .t 9, .k (.i 9)], none⟩,
      ⟨some 11, .bin .sub, [.t 10, .k (.i 4)], none⟩,
      ⟨some 2, .move, [.t 11], none⟩] [2] [])
    .ret)))
def a88 : AF := ⟨c88, [.tmp 2]⟩
/-- spec.l91Good -/
def c119 : AC :=
 (.seq
  (.reg [] [⟨some 8, .alloc [.i 0, .i 0, .nils], [], none⟩] [0, 1, 2, 3, 8] [8, 52, 59, 73, 92])
  (.seq
   (.reg [] [⟨some 16, .move, [.t 0], none⟩,
     ⟨some 17, .call [] false, [.f 53, .t 16, .k (.i 9)], none⟩,
     ⟨some 9, .move, [.t 17], none⟩] [0, 1, 2, 3, 8, 9] [8, 52, 59, 73, 92])
   (.seq
    (.seq
     (.reg [] [⟨some 18, .move, [.t 1], none⟩,
       ⟨some 19, .bin .eq, [.t 18, .k (.i 0)], none⟩] [0, 1, 2, 3, 8, 9, 19] [8, 52, 59, 73, 92])
     (.cond (.t 19)
      (.reg [] [⟨some 20, .move, [.t 0], none⟩,
        ⟨some 21, .call [] false, [.f 53, .t 20, .k (.i 2)], none⟩,
        ⟨some 9, .move, [.t 21], none⟩] [0, 1, 2, 3, 8, 9] [8, 52, 59, 73, 92])
      .skip))
    (.seq
     (.block 0
      (.seq
       (.reg [] [⟨some 23, .move, [.t 9], none⟩,
         ⟨some 24, .bin .lt, [.t 23, .k (.i 2)], none⟩,
         ⟨some 25, .move, [.t 24], none⟩,
         ⟨some 26, .move, [.t 2], some (25, true)⟩,
         ⟨some 27, .bin .gt, [.t 26, .k (.i 0)], some (25, true)⟩,
         ⟨some 28, .pick, [.t 25, .t 27, .k (.b false)], none⟩,
         ⟨some 29, .move, [.t 28], none⟩,
         ⟨some 30, .move, [.t 3], some (29, true)⟩,
         ⟨some 31, .pick, [.t 29, .t 30, .k (.b false)], none⟩,
         ⟨some 22, .move, [.t 31], none⟩] [0, 1, 2, 3, 8, 9, 22] [8, 52, 59, 73, 92])
       (.cond (.t 22)
        (.seq
         (.reg [] [⟨some 32, .move, [.t 0], none⟩,
           ⟨some 33, .move, [.t 2], none⟩,
           ⟨some 34, .call [] false, [.f 53, .t 32, .t 33], none⟩,
           ⟨some 35, .build [.i 0, .i 0, .nils] [(0, 1), (1, 1)], [.k (.i 5), .t 34], none⟩,
           ⟨none, .store 3 true, [.t 8, .t 35], none⟩] [8] [8, 52, 59, 73, 92])
         .ret)
        (.seq
         (.reg [] [⟨some 37, .move, [.t 9], none⟩,
           ⟨some 38, .bin .eq, [.t 37, .k (.i 0)], none⟩,
           ⟨some 36, .move, [.t 38], none⟩] [0, 1, 2, 3, 8, 9, 36] [8, 52, 59, 73, 92])
         (.cond (.t 36)
          (.seq
           (.reg [] [⟨some 39, .build [.i 0, .i 0, .nils] [], [], none⟩,
             ⟨none, .store 3 true, [.t 8, .t 39], none⟩] [8] [8, 52, 59, 73, 92])
           .ret)
          (.seq
           (.reg [] [⟨some 41, .move, [.t 9], none⟩,
             ⟨some 42, .bin .lt, [.t 41, .k (.i 5)], none⟩,
             ⟨some 40, .move, [.t 42], none⟩] [0, 1, 2, 3, 8, 9, 40] [8, 52, 59, 73, 92])
           (.cond (.t 40)
            (.seq
             (.reg [] [⟨some 43, .move, [.t 0], none⟩,
               ⟨some 44, .call [] false, [.f 88, .t 43], none⟩,
               ⟨some 10, .move, [.t 44], none⟩] [0, 1, 2, 8, 10] [8, 52, 59, 73, 92])
             (.seq
              (.reg [] [⟨some 45, .move, [.t 1], none⟩,
                ⟨some 46, .bin .sub, [.t 45, .k (.i 1)], none⟩,
                ⟨some 47, .max2, [.k (.i 0), .t 46], none⟩,
                ⟨some 11, .move, [.t 47], none⟩] [0, 1, 2, 8, 10, 11] [8, 52, 59, 73, 92])
              (.seq
               (.seq
                (.reg [] [⟨some 48, .move, [.t 1], none⟩,
                  ⟨some 49, .bin .eq, [.t 48, .k (.i 0)], none⟩] [0, 2, 8, 10, 11, 49] [8, 52, 59, 73, 92])
                (.cond (.t 49)
                 (.seq
                  (.reg [] [⟨some 50, .move, [.t 10], none⟩,
                    ⟨some 51, .build [.i 0, .i 0, .nils] [], [], none⟩,
                    ⟨some 52, .bslice 3 true, [.t 51], none⟩,
                    ⟨some 53, .build [.i 0, .i 0, .nils] [(0, 1), (1, 1), (2, 1)], [.k (.i 1), .t 50, .t 52], none⟩,
                    ⟨none, .store 3 true, [.t 8, .t 53], none⟩] [8] [8, 52, 59, 73, 92])
                  .ret)
                 .skip))
               (.seq
                (.reg [] [⟨some 54, .move, [.t 10], none⟩,
                  ⟨some 55, .move, [.t 0], none⟩,
                  ⟨some 56, .move, [.t 11], none⟩,
                  ⟨some 57, .move, [.t 2], none⟩,
                  ⟨some 58, .call [] false, [.f 119, .t 55, .t 56, .t 57, .k (.b true)], none⟩,
                  ⟨some 59, .bslice 3 true, [.t 58], none⟩,
                  ⟨some 60, .build [.i 0, .i 0, .nils] [(0, 1), (1, 1), (2, 1)], [.k (.i 1), .t 54, .t 59], none⟩,
                  ⟨none, .store 3 true, [.t 8, .t 60], none⟩] [8] [8, 52, 59, 73, 92])
                .ret))))
            (.seq
             (.reg [] [⟨some 62, .move, [.t 9], none⟩,
               ⟨some 63, .bin .eq, [.t 62, .k (.i 5)], none⟩,
               ⟨some 61, .move, [.t 63], none⟩] [0, 1, 2, 3, 8, 9, 61] [8, 52, 59, 73, 92])
             (.cond (.t 61)
              (.seq
               (.reg [] [⟨some 64, .move, [.t 0], none⟩,
                 ⟨some 65, .call [] false, [.f 53, .t 64, .k (.i 4)], none⟩,
                 ⟨some 12, .move, [.t 65], none⟩] [0, 1, 2, 3, 8, 12] [8, 52, 59, 73, 92])
               (.seq
                (.reg [] [⟨some 66, .move, [.t 12], none⟩,
                  ⟨some 67, .move, [.t 0], none⟩,
                  ⟨some 68, .move, [.t 1], none⟩,
                  ⟨some 69, .bin .sub, [.t 68, .k (.i 1)], none⟩,
                  ⟨some 70, .move, [.t 2], none⟩,
                  ⟨some 71, .move, [.t 3], none⟩,
                  ⟨some 72, .call [] false, [.f 119, .t 67, .t 69, .t 70, .t 71], none⟩,
                  ⟨some 73, .bslice 3 true, [.t 72], none⟩,
                  ⟨some 74, .build [.i 0, .i 0, .nils] [(0, 1), (1, 1), (2, 1)], [.k (.i 4), .t 66, .t 73], none⟩,
                  ⟨none, .store 3 true, [.t 8, .t 74], none⟩] [8] [8, 52, 59, 73, 92])
                .ret))
              .skip)))))))))
     (.seq
      (.reg [] [⟨some 13, .move, [.k (.i 2)], none⟩] [0, 1, 2, 3, 8, 9, 13] [8, 52, 59, 73, 92])
      (.seq
       (.seq
        (.reg [] [⟨some 75, .move, [.t 9], none⟩,
          ⟨some 76, .bin .eq, [.t 75, .k (.i 8)], none⟩] [0, 1, 2, 3, 8, 13, 76] [8, 52, 59, 73, 92])
        (.cond (.t 76)
         (.reg [] [⟨some 13, .move, [.k (.i 3)], none⟩] [0, 1, 2, 3, 8, 13] [8, 52, 59, 73, 92])
         .skip))
       (.seq
        (.reg [] [⟨some 77, .move, [.t 0], none⟩,
          ⟨some 78, .move, [.t 1], none⟩,
          ⟨some 79, .bin .sub, [.t 78, .k (.i 1)], none⟩,
          ⟨some 80, .move, [.t 2], none⟩,
          ⟨some 81, .move, [.t 3], none⟩,
          ⟨some 82, .call [] false, [.f 119, .t 77, .t 79, .t 80, .t 81], none⟩,
          ⟨some 14, .alloc [.i 0, .i 0, .nils], [], none⟩,
          ⟨none, .store 3 true, [.t 14, .t 82], none⟩] [0, 1, 2, 3, 8, 13, 14] [8, 14, 52, 59, 73, 82, 92])
        (.seq
         (.reg [] [⟨some 83, .move, [.t 0], none⟩,
           ⟨some 84, .move, [.t 1], none⟩,
           ⟨some 85, .bin .sub, [.t 84, .k (.i 1)], none⟩,
           ⟨some 86, .move, [.t 2], none⟩,
           ⟨some 87, .move, [.t 3], none⟩,
           ⟨some 88, .call [] false, [.f 119, .t 83, .t 85, .t 86, .t 87], none⟩,
           ⟨some 15, .alloc [.i 0, .i 0, .nils], [], none⟩,
           ⟨none, .store 3 true, [.t 15, .t 88], none⟩] [8, 13, 14, 15] [8, 14, 15, 52, 59, 73, 82, 88, 92])
         (.seq
          (.reg [] [⟨some 89, .move, [.t 13], none⟩,
            ⟨some 90, .load (some 3) false, [.t 14], none⟩,
            ⟨some 91, .load (some 3) false, [.t 15], none⟩,
            ⟨some 92, .bslice 3 true, [.t 90, .t 91], none⟩,
            ⟨some 93, .build [.i 0, .i 0, .nils] [(0, 1), (2, 1)], [.t 89, .t 92], none⟩,
            ⟨none, .store 3 true, [.t 8, .t 93], none⟩] [8] [8, 52, 59, 73, 92])
          .ret)))))))))
def a119 : AF := ⟨c119, [.cell 8 (some 3)]⟩
def b107l0 : AC :=
 (.seq
  (.seq
   (.reg [] [⟨some 9, .move, [.t 5], none⟩,
     ⟨some 10, .move, [.t 3], none⟩,
     ⟨some 11, .bin .lt, [.t 9, .t 10], none⟩] [0, 3, 4, 5, 11] [8, 22])
   (.cond (.t 11)
    .skip
    (.exit 0)))
  (.seq
   (.block 1
    (.reg [] [⟨some 14, .move, [.t 4], none⟩,
      ⟨some 15, .move, [.t 0], none⟩,
      ⟨some 16, .move, [.t 0], none⟩,
      ⟨some 17, .call [] false, [.f 53, .t 16, .k (.i 3)], none⟩,
      ⟨some 18, .bin .add, [.k (.i 1), .t 17], none⟩,
      ⟨some 19, .move, [.t 3], none⟩,
      ⟨some 20, .call [] false, [.f 119, .t 15, .t 18, .t 19, .k (.b false)], none⟩,
      ⟨some 21, .bslice 3 true, [.t 20], none⟩,
      ⟨some 22, .append 3 true, [.t 14, .t 21], none⟩,
      ⟨some 4, .move, [.t 22], none⟩] [0, 3, 4, 5] [8, 22]))
   (.reg [] [⟨some 12, .move, [.t 5], none⟩,
     ⟨some 13, .bin .add, [.t 12, .k (.i 1)], none⟩,
     ⟨some 5, .move, [.t 13], none⟩] [0, 3, 4, 5] [8, 22])))
def c107l0 : AC := b107l0
theorem r107l0 (call lp s) : run call lp c107l0 s = run call lp b107l0 s := rfl
/-- spec.l91Defs -/
def c107 : AC :=
 (.seq
  (.reg [] [⟨some 2, .move, [.k (.nils)], none⟩] [0] [])
  (.seq
   (.reg [] [⟨some 6, .move, [.t 0], none⟩,
     ⟨some 7, .call [] false, [.f 53, .t 6, .k (.i 4)], none⟩,
     ⟨some 3, .move, [.t 7], none⟩] [0, 3] [])
   (.seq
    (.reg [] [⟨some 8, .bslice 3 true, [], none⟩,
      ⟨some 4, .move, [.t 8], none⟩] [0, 3, 4] [8, 22])
    (.seq
     (.seq
      (.reg [] [⟨some 5, .move, [.k (.i 0)], none⟩] [0, 3, 4, 5] [8, 22])
      (.block 0
       (.loop [0, 3, 4, 5] [8, 22] c107l0)))
     (.seq
      (.seq
       (.reg [] [⟨some 23, .move, [.t 3], none⟩,
         ⟨some 24, .bin .gt, [.t 23, .k (.i 0)], none⟩,
         ⟨some 25, .move, [.t 24], none⟩,
         ⟨some 26, .move, [.t 0], some (25, true)⟩,
         ⟨some 27, .call [] false, [.f 53, .t 26, .k (.i 20)], some (25, true)⟩,
         ⟨some 28, .bin .eq, [.t 27, .k (.i 0)], some (25, true)⟩,
         ⟨some 29, .pick, [.t 25, .t 28, .k (.b false)], none⟩] [0, 3, 4, 29] [8, 22])
       (.cond (.t 29)
        (.reg [] [⟨some 30, .move, [.t 4], none⟩,
          ⟨some 31, .move, [.t 0], none⟩,
          ⟨some 32, .move, [.t 3], none⟩,
          ⟨some 33, .call [] false, [.f 53, .t 31, .t 32], none⟩,
          ⟨some 34, .move, [.t 0], none⟩,
          ⟨some 35, .move, [.t 3], none⟩,
          ⟨some 36, .bin .add, [.t 35, .k (.i 1)], none⟩,
          ⟨some 37, .call [] false, [.f 53, .t 34, .t 36], none⟩,
          ⟨some 38, .build [.i 0, .i 0, .nils] [(0, 1), (1, 1)], [.k (.i 5), .t 37], none⟩,
          ⟨some 39, .iaddr 3, [.t 30, .t 33], none⟩,
          ⟨none, .store 3 true, [.t 39, .t 38], none⟩] [4] [8, 22])
        .skip))
      (.seq
       (.reg [] [⟨some 40, .move, [.t 4], none⟩,
         ⟨some 2, .move, [.t 40], none⟩] [2] [8, 22])
       .ret))))))
def a107 : AF := ⟨c107, [.tmp 2]⟩
/-- spec.l91Term -/
def c108 : AC :=
 (.seq
  (.reg [] [⟨some 4, .alloc [.i 0, .i 0, .nils], [], none⟩] [0, 1, 4] [4, 11, 28, 31])
  (.seq
   (.reg [] [⟨some 6, .move, [.t 0], none⟩,
     ⟨some 7, .move, [.t 0], none⟩,
     ⟨some 8, .call [] false, [.f 53, .t 7, .k (.i 4)], none⟩,
     ⟨some 9, .bin .add, [.k (.i 1), .t 8], none⟩,
     ⟨some 10, .move, [.t 1], none⟩,
     ⟨some 11, .call [] false, [.f 119, .t 6, .t 9, .t 10, .k (.b false)], none⟩,
     ⟨some 5, .alloc [.i 0, .i 0, .nils], [], none⟩,
     ⟨none, .store 3 true, [.t 5, .t 11], none⟩] [0, 4, 5] [4, 5, 11, 28, 31])
   (.seq
    (.seq
     (.reg [] [⟨some 12, .move, [.t 0], none⟩,
       ⟨some 13, .call [] false, [.f 53, .t 12, .k (.i 24)], none⟩] [0, 4, 5, 13] [4, 5, 11, 28, 31])
     (.block 0
      (.seq
       (.reg [] [⟨some 15, .bin .eq, [.t 13, .k (.i 0)], none⟩,
         ⟨some 14, .move, [.t 15], none⟩] [0, 4, 5, 13, 14] [4, 5, 11, 28, 31])
       (.cond (.t 14)
        (.reg [] [⟨some 16, .faddr 1, [.t 5], none⟩,
          ⟨some 17, .load none false, [.t 16], none⟩,
          ⟨some 18, .bin .add, [.t 17, .k (.i 7)], none⟩,
          ⟨some 19, .faddr 1, [.t 5], none⟩,
          ⟨none, .store 1 true, [.t 19, .t 18], none⟩] [4, 5] [4, 5, 11, 28, 31])
        (.seq
         (.reg [] [⟨some 21, .bin .eq, [.t 13, .k (.i 1)], none⟩,
           ⟨some 20, .move, [.t 21], none⟩] [0, 4, 5, 13, 20] [4, 5, 11, 28, 31])
         (.cond (.t 20)
          (.reg [] [⟨some 22, .move, [.t 0], none⟩,
            ⟨some 23, .call [] false, [.f 53, .t 22, .k (.i 8)], none⟩,
            ⟨some 24, .faddr 0, [.t 5], none⟩,
            ⟨none, .store 1 true, [.t 24, .t 23], none⟩] [4, 5] [4, 5, 11, 28, 31])
          (.seq
           (.reg [] [⟨some 26, .bin .eq, [.t 13, .k (.i 2)], none⟩,
             ⟨some 25, .move, [.t 26], none⟩] [4, 5, 25] [4, 5, 11, 28, 31])
           (.cond (.t 25)
            (.reg [] [⟨some 27, .build [.i 0, .i 0, .nils] [], [], none⟩,
              ⟨some 28, .bslice 3 true, [.t 27], none⟩,
              ⟨some 29, .faddr 2, [.t 5], none⟩,
              ⟨some 30, .load none false, [.t 29], none⟩,
              ⟨some 31, .append 3 true, [.t 28, .t 30], none⟩,
              ⟨some 32, .faddr 2, [.t 5], none⟩,
              ⟨none, .store 1 true, [.t 32, .t 31], none⟩] [4, 5] [4, 5, 11, 28, 31])
            .skip))))))))
    (.seq
     (.reg [] [⟨some 33, .load (some 3) false, [.t 5], none⟩,
       ⟨none, .store 3 true, [.t 4, .t 33], none⟩] [4] [4, 11, 28, 31])
     .ret))))
def a108 : AF := ⟨c108, [.cell 4 (some 3)]⟩
/-- spec.l91Called -/
def c93 : AC :=
 (.seq
  (.reg [] [⟨some 2, .alloc [.i 0, .i 0, .nils], [], none⟩,
    ⟨some 3, .move, [.k (.nils)], none⟩] [0, 2] [2, 11])
  (.seq
   (.reg [] [⟨some 6, .move, [.t 0], none⟩,
     ⟨some 7, .call [] false, [.f 107, .t 6], none⟩,
     ⟨some 4, .move, [.t 7], none⟩] [0, 2, 4] [2, 7, 11])
   (.seq
    (.reg [] [⟨some 8, .move, [.t 0], none⟩,
      ⟨some 9, .move, [.t 4], none⟩,
      ⟨some 10, .len, [.t 9], none⟩,
      ⟨some 11, .call [] false, [.f 108, .t 8, .t 10], none⟩,
      ⟨some 5, .alloc [.i 0, .i 0, .nils], [], none⟩,
      ⟨none, .store 3 true, [.t 5, .t 11], none⟩] [0, 2, 4, 5] [2, 5, 7, 11])
    (.seq
     (.seq
      (.reg [] [⟨some 12, .move, [.t 4], none⟩,
        ⟨some 13, .len, [.t 12], none⟩,
        ⟨some 14, .bin .gt, [.t 13, .k (.i 0)], none⟩,
        ⟨some 15, .move, [.t 14], none⟩,
        ⟨some 16, .move, [.t 0], some (15, true)⟩,
        ⟨some 17, .call [] false, [.f 53, .t 16, .k (.i 3)], some (15, true)⟩,
        ⟨some 18, .bin .eq, [.t 17, .k (.i 0)], some (15, true)⟩,
        ⟨some 19, .pick, [.t 15, .t 18, .k (.b false)], none⟩] [0, 2, 4, 5, 19] [2, 5, 7, 11])
      (.cond (.t 19)
       (.reg [] [⟨some 20, .move, [.t 0], none⟩,
         ⟨some 21, .move, [.t 4], none⟩,
         ⟨some 22, .len, [.t 21], none⟩,
         ⟨some 23, .call [] false, [.f 53, .t 20, .t 22], none⟩,
         ⟨some 24, .build [.i 0, .i 0, .nils] [(0, 1), (1, 1)], [.k (.i 5), .t 23], none⟩,
         ⟨none, .store 3 true, [.t 5, .t 24], none⟩] [2, 4, 5] [2, 5, 7, 11])
       .skip))
     (.seq
      (.reg [] [⟨some 25, .load (some 3) false, [.t 5], none⟩,
        ⟨some 26, .move, [.t 4], none⟩,
        ⟨none, .store 3 true, [.t 2, .t 25], none⟩,
        ⟨some 3, .move, [.t 26], none⟩] [2, 3] [2, 7, 11])
      .ret)))))
def a93 : AF := ⟨c93, [.cell 2 (some 3), .tmp 3]⟩
/-- spec.l6In -/
def c60 : AC :=
 (.seq
  (.reg [] [⟨some 6, .move, [.k (.b false)], none⟩] [0, 1, 2] [])
  (.seq
   (.reg [] [⟨some 7, .move, [.t 0], none⟩,
     ⟨some 8, .move, [.t 1], none⟩,
     ⟨some 9, .bin .ge, [.t 7, .t 8], none⟩,
     ⟨some 10, .move, [.t 9], none⟩,
     ⟨some 11, .move, [.t 0], some (10, true)⟩,
     ⟨some 12, .move, [.t 2], some (10, true)⟩,
     ⟨some 13, .bin .le, [.t 11, .t 12], some (10, true)⟩,
     ⟨some 14, .pick, [.t 10, .t 13, .k (.b false)], none⟩,
     ⟨some 6, .move, [.t 14], none⟩] [6] [])
   .ret))
def a60 : AF := ⟨c60, [.tmp 6]⟩
/-- spec.ActOk -/
def c76 : AC :=
 (.seq
  (.reg [] [⟨some 2, .move, [.k (.b false)], none⟩] [0] [])
  (.seq
   (.reg [] [⟨some 3, .move, [.t 0], none⟩,
     ⟨some 4, .call [] false, [.f 60, .t 3, .k (.i (-4)), .k (.i 4)], none⟩,
     ⟨some 2, .move, [.t 4], none⟩] [2] [])
   .ret))
def a76 : AF := ⟨c76, [.tmp 2]⟩
def b124l0 : AC :=
 (.seq
  (.seq
   (.reg [] [⟨some 42, .move, [.t 6], none⟩,
     ⟨some 43, .move, [.t 3], none⟩,
     ⟨some 44, .bin .lt, [.t 42, .t 43], none⟩] [1, 3, 5, 6, 44] [1])
   (.cond (.t 44)
    .skip
    (.exit 1)))
  (.seq
   (.block 2
    (.seq
     (.reg [] [⟨some 47, .faddr 2, [.t 1], none⟩,
       ⟨some 48, .load none false, [.t 47], none⟩,
       ⟨some 49, .move, [.t 6], none⟩,
       ⟨some 50, .iaddr 3, [.t 48, .t 49], none⟩,
       ⟨some 51, .load (some 3) false, [.t 50], none⟩,
       ⟨some 52, .call [] false, [.f 124, .t 51], none⟩,
       ⟨some 7, .move, [.t 52], none⟩] [1, 3, 5, 6, 7] [1])
     (.seq
      (.seq
       (.reg [] [⟨some 53, .move, [.t 7], none⟩,
         ⟨some 54, .bin .eq, [.t 53, .k (.i 0)], none⟩] [1, 3, 5, 6, 7, 54] [1])
       (.cond (.t 54)
        (.seq
         (.reg [] [⟨some 2, .move, [.k (.i 0)], none⟩] [2] [])
         .ret)
        .skip))
      (.reg [] [⟨some 55, .move, [.t 5], none⟩,
        ⟨some 56, .move, [.t 7], none⟩,
        ⟨some 57, .bin .add, [.t 55, .t 56], none⟩,
        ⟨some 58, .min2, [.k (.i 1000), .t 57], none⟩,
        ⟨some 5, .move, [.t 58], none⟩] [1, 3, 5, 6] [1]))))
   (.reg [] [⟨some 45, .move, [.t 6], none⟩,
     ⟨some 46, .bin .add, [.t 45, .k (.i 1)], none⟩,
     ⟨some 6, .move, [.t 46], none⟩] [1, 3, 5, 6] [1])))
def c124l0 : AC := b124l0
theorem r124l0 (call lp s) : run call lp c124l0 s = run call lp b124l0 s := rfl
/-- spec.l2Nodes -/
def c124 : AC :=
 (.seq
  (.reg [] [⟨some 1, .box, [.t 0], none⟩,
    ⟨some 2, .move, [.k (.i 0)], none⟩] [1] [1])
  (.seq
   (.reg [] [⟨some 3, .move, [.k (.i 0)], none⟩] [1, 3] [1])
   (.seq
    (.reg [] [⟨some 8, .faddr 1, [.t 1], none⟩,
      ⟨some 9, .load none false, [.t 8], none⟩,
      ⟨some 10, .bin .eq, [.t 9, .k (.i 0)], none⟩,
      ⟨some 4, .move, [.t 10], none⟩] [1, 3, 4] [1])
    (.seq
     (.seq
      (.reg [] [⟨some 11, .faddr 0, [.t 1], none⟩,
        ⟨some 12, .load none false, [.t 11], none⟩] [1, 3, 4, 12] [1])
      (.block 0
       (.seq
        (.reg [] [⟨some 14, .bin .eq, [.t 12, .k (.i 0)], none⟩,
          ⟨some 13, .move, [.t 14], none⟩] [1, 3, 4, 12, 13] [1])
        (.cond (.t 13)
         .skip
         (.seq
          (.reg [] [⟨some 16, .bin .eq, [.t 12, .k (.i 1)], none⟩,
            ⟨some 15, .move, [.t 16], none⟩] [1, 3, 4, 12, 15] [1])
          (.cond (.t 15)
           (.seq
            (.reg [] [⟨some 3, .move, [.k (.i 1)], none⟩] [1, 3] [1])
            (.reg [] [⟨some 17, .faddr 1, [.t 1], none⟩,
              ⟨some 18, .load none false, [.t 17], none⟩,
              ⟨some 19, .call [] false, [.f 76, .t 18], none⟩,
              ⟨some 4, .move, [.t 19], none⟩] [1, 3, 4] [1]))
           (.seq
            (.seq
             (.reg [] [⟨some 21, .bin .eq, [.t 12, .k (.i 2)], none⟩,
               ⟨some 20, .move, [.t 21], none⟩] [1, 3, 4, 12, 20] [1])
             (.cond (.t 20)
              .skip
              (.reg [] [⟨some 22, .bin .eq, [.t 12, .k (.i 3)], none⟩,
                ⟨some 20, .move, [.t 22], none⟩] [1, 3, 4, 12, 20] [1])))
            (.cond (.t 20)
             (.reg [] [⟨some 3, .move, [.k (.i 2)], none⟩] [1, 3, 4] [1])
             (.seq
              (.reg [] [⟨some 24, .bin .eq, [.t 12, .k (.i 4)], none⟩,
                ⟨some 23, .move, [.t 24], none⟩] [1, 3, 12, 23] [1])
              (.cond (.t 23)
               (.seq
                (.reg [] [⟨some 3, .move, [.k (.i 1)], none⟩] [1, 3] [1])
                (.reg [] [⟨some 25, .faddr 1, [.t 1], none⟩,
                  ⟨some 26, .load none false, [.t 25], none⟩,
                  ⟨some 27, .call [] false, [.f 60, .t 26, .k (.i 0), .k (.i 3)], none⟩,
                  ⟨some 4, .move, [.t 27], none⟩] [1, 3, 4] [1]))
               (.seq
                (.reg [] [⟨some 29, .bin .eq, [.t 12, .k (.i 5)], none⟩,
                  ⟨some 28, .move, [.t 29], none⟩] [1, 3, 28] [1])
                (.cond (.t 28)
                 (.reg [] [⟨some 30, .faddr 1, [.t 1], none⟩,
                   ⟨some 31, .load none false, [.t 30], none⟩,
                   ⟨some 32, .call [] false, [.f 60, .t 31, .k (.i 0), .k (.i 2)], none⟩,
                   ⟨some 4, .move, [.t 32], none⟩] [1, 3, 4] [1])
                 (.reg [] [⟨some 4, .move, [.k (.b false)], none⟩] [1, 3, 4] [1])))))))))))))
     (.seq
      (.seq
       (.reg [] [⟨some 33, .move, [.t 4], none⟩,
         ⟨some 34, .not, [.t 33], none⟩,
         ⟨some 35, .move, [.t 34], none⟩,
         ⟨some 36, .faddr 2, [.t 1], some (35, false)⟩,
         ⟨some 37, .load none false, [.t 36], some (35, false)⟩,
         ⟨some 38, .len, [.t 37], some (35, false)⟩,
         ⟨some 39, .move, [.t 3], some (35, false)⟩,
         ⟨some 40, .bin .ne, [.t 38, .t 39], some (35, false)⟩,
         ⟨some 41, .pick, [.t 35, .k (.b true), .t 40], none⟩] [1, 3, 41] [1])
       (.cond (.t 41)
        (.seq
         (.reg [] [⟨some 2, .move, [.k (.i 0)], none⟩] [2] [])
         .ret)
        .skip))
      (.seq
       (.reg [] [⟨some 5, .move, [.k (.i 1)], none⟩] [1, 3, 5] [1])
       (.seq
        (.seq
         (.reg [] [⟨some 6, .move, [.k (.i 0)], none⟩] [1, 3, 5, 6] [1])
         (.block 1
          (.loop [1, 3, 5, 6] [1] c124l0)))
        (.seq
         (.reg [] [⟨some 59, .move, [.t 5], none⟩,
           ⟨some 2, .move, [.t 59], none⟩] [2] [])
         .ret))))))))
def a124 : AF := ⟨c124, [.tmp 2]⟩
/-- spec.TermOk -/
def c142 : AC :=
 (.seq
  (.reg [] [⟨some 1, .box, [.t 0], none⟩,
    ⟨some 2, .move, [.k (.b false)], none⟩] [1] [1])
  (.seq
   (.reg [] [⟨some 3, .load (some 3) false, [.t 1], none⟩,
     ⟨some 4, .call [] false, [.f 124, .t 3], none⟩,
     ⟨some 5, .call [] false, [.f 60, .t 4, .k (.i 1), .k (.i 24)], none⟩,
     ⟨some 2, .move, [.t 5], none⟩] [2] [])
   .ret))
def a142 : AF := ⟨c142, [.tmp 2]⟩
def b141l0 : AC :=
 (.seq
  (.seq
   (.reg [] [⟨some 12, .move, [.t 6], none⟩,
     ⟨some 13, .faddr 2, [.t 2], none⟩,
     ⟨some 14, .load none false, [.t 13], none⟩,
     ⟨some 15, .len, [.t 14], none⟩,
     ⟨some 16, .bin .lt, [.t 12, .t 15], none⟩,
     ⟨some 17, .move, [.t 16], none⟩,
     ⟨some 18, .move, [.t 1], some (17, true)⟩,
     ⟨some 19, .move, [.t 18], some (17, true)⟩,
     ⟨some 20, .faddr 0, [.t 2], some (19, true)⟩,
     ⟨some 21, .load none false, [.t 20], some (19, true)⟩,
     ⟨some 22, .bin .eq, [.t 21, .k (.i 1)], some (19, true)⟩,
     ⟨some 23, .pick, [.t 19, .t 22, .k (.b false)], some (17, true)⟩,
     ⟨some 24, .not, [.t 23], some (17, true)⟩,
     ⟨some 25, .pick, [.t 17, .t 24, .k (.b false)], none⟩] [1, 2, 5, 6, 25] [2])
   (.cond (.t 25)
    .skip
    (.exit 0)))
  (.seq
   (.block 1
    (.reg [] [⟨some 28, .move, [.t 5], none⟩,
      ⟨some 29, .faddr 2, [.t 2], none⟩,
      ⟨some 30, .load none false, [.t 29], none⟩,
      ⟨some 31, .move, [.t 6], none⟩,
      ⟨some 32, .iaddr 3, [.t 30, .t 31], none⟩,
      ⟨some 33, .load (some 3) false, [.t 32], none⟩,
      ⟨some 34, .move, [.t 1], none⟩,
      ⟨some 35, .call [] false, [.f 141, .t 33, .t 34], none⟩,
      ⟨some 36, .max2, [.t 28, .t 35], none⟩,
      ⟨some 5, .move, [.t 36], none⟩] [1, 2, 5, 6] [2]))
   (.reg [] [⟨some 26, .move, [.t 6], none⟩,
     ⟨some 27, .bin .add, [.t 26, .k (.i 1)], none⟩,
     ⟨some 6, .move, [.t 27], none⟩] [1, 2, 5, 6] [2])))
def c141l0 : AC := b141l0
theorem r141l0 (call lp s) : run call lp c141l0 s = run call lp b141l0 s := rfl
/-- spec.l2Calls -/
def c141 : AC :=
 (.seq
  (.reg [] [⟨some 2, .box, [.t 0], none⟩,
    ⟨some 4, .move, [.k (.i 0)], none⟩] [1, 2] [2])
  (.seq
   (.seq
    (.reg [] [⟨some 7, .faddr 0, [.t 2], none⟩,
      ⟨some 8, .load none false, [.t 7], none⟩,
      ⟨some 9, .bin .eq, [.t 8, .k (.i 5)], none⟩] [1, 2, 9] [2])
    (.cond (.t 9)
     (.seq
      (.reg [] [⟨some 10, .faddr 1, [.t 2], none⟩,
        ⟨some 11, .load none false, [.t 10], none⟩,
        ⟨some 4, .move, [.t 11], none⟩] [4] [])
      .ret)
     .skip))
   (.seq
    (.reg [] [⟨some 5, .move, [.k (.i (-1))], none⟩] [1, 2, 5] [2])
    (.seq
     (.seq
      (.reg [] [⟨some 6, .move, [.k (.i 0)], none⟩] [1, 2, 5, 6] [2])
      (.block 0
       (.loop [1, 2, 5, 6] [2] c141l0)))
     (.seq
      (.reg [] [⟨some 37, .move, [.t 5], none⟩,
        ⟨some 4, .move, [.t 37], none⟩] [4] [])
      .ret)))))
def a141 : AF := ⟨c141, [.tmp 4]⟩
/-- spec.TermFits -/
def c121 : AC :=
 (.seq
  (.reg [] [⟨some 2, .box, [.t 0], none⟩,
    ⟨some 4, .move, [.k (.b false)], none⟩] [1, 2] [2])
  (.seq
   (.reg [] [⟨some 5, .load (some 3) false, [.t 2], none⟩,
     ⟨some 6, .call [] false, [.f 142, .t 5], none⟩,
     ⟨some 7, .move, [.t 6], none⟩,
     ⟨some 8, .move, [.t 1], some (7, true)⟩,
     ⟨some 9, .call [] false, [.f 60, .t 8, .k (.i 0), .k (.i 3)], some (7, true)⟩,
     ⟨some 10, .pick, [.t 7, .t 9, .k (.b false)], none⟩,
     ⟨some 11, .move, [.t 10], none⟩,
     ⟨some 12, .load (some 3) false, [.t 2], some (11, true)⟩,
     ⟨some 13, .call [] false, [.f 141, .t 12, .k (.b false)], some (11, true)⟩,
     ⟨some 14, .move, [.t 1], some (11, true)⟩,
     ⟨some 15, .bin .lt, [.t 13, .t 14], some (11, true)⟩,
     ⟨some 16, .pick, [.t 11, .t 15, .k (.b false)], none⟩,
     ⟨some 4, .move, [.t 16], none⟩] [4] [])
   .ret))
def a121 : AF := ⟨c121, [.tmp 4]⟩
def b120l0 : AC :=
 (.seq
  (.seq
   (.reg [] [⟨some 4, .move, [.t 3], none⟩,
     ⟨some 5, .move, [.t 0], none⟩,
     ⟨some 6, .len, [.t 5], none⟩,
     ⟨some 7, .bin .lt, [.t 4, .t 6], none⟩] [0, 3, 7] [])
   (.cond (.t 7)
    .skip
    (.exit 0)))
  (.seq
   (.block 1
    (.seq
     (.reg [] [⟨some 10, .move, [.t 0], none⟩,
       ⟨some 11, .move, [.t 3], none⟩,
       ⟨some 12, .iaddr 3, [.t 10, .t 11], none⟩,
       ⟨some 13, .load (some 3) false, [.t 12], none⟩,
       ⟨some 14, .move, [.t 0], none⟩,
       ⟨some 15, .len, [.t 14], none⟩,
       ⟨some 16, .call [] false, [.f 121, .t 13, .t 15], none⟩,
       ⟨some 17, .not, [.t 16], none⟩,
       ⟨some 18, .move, [.t 17], none⟩,
       ⟨some 19, .move, [.t 0], some (18, false)⟩,
       ⟨some 20, .move, [.t 3], some (18, false)⟩,
       ⟨some 21, .iaddr 3, [.t 19, .t 20], some (18, false)⟩,
       ⟨some 22, .load (some 3) false, [.t 21], some (18, false)⟩,
       ⟨some 23, .call [] false, [.f 141, .t 22, .k (.b true)], some (18, false)⟩,
       ⟨some 24, .bin .ge, [.t 23, .k (.i 0)], some (18, false)⟩,
       ⟨some 25, .pick, [.t 18, .k (.b true), .t 24], none⟩] [0, 3, 25] [])
     (.cond (.t 25)
      (.seq
       (.reg [] [⟨some 2, .move, [.k (.b false)], none⟩] [2] [])
       .ret)
      .skip)))
   (.reg [] [⟨some 8, .move, [.t 3], none⟩,
     ⟨some 9, .bin .add, [.t 8, .k (.i 1)], none⟩,
     ⟨some 3, .move, [.t 9], none⟩] [0, 3] [])))
def c120l0 : AC := b120l0
theorem r120l0 (call lp s) : run call lp c120l0 s = run call lp b120l0 s := rfl
/-- spec.DefsOk -/
def c120 : AC :=
 (.seq
  (.reg [] [⟨some 2, .move, [.k (.b false)], none⟩] [0] [])
  (.seq
   (.seq
    (.reg [] [⟨some 3, .move, [.k (.i 0)], none⟩] [0, 3] [])
    (.block 0
     (.loop [0, 3] [] c120l0)))
   (.seq
    (.reg [] [⟨some 26, .move, [.t 0], none⟩,
      ⟨some 27, .len, [.t 26], none⟩,
      ⟨some 28, .bin .le, [.t 27, .k (.i 3)], none⟩,
      ⟨some 2, .move, [.t 28], none⟩] [2] [])
    .ret)))
def a120 : AF := ⟨c120, [.tmp 2]⟩
/-- spec.l3Asked -/
def c109 : AC :=
 (.seq
  (.reg [] [⟨some 2, .box, [.t 0], none⟩,
    ⟨some 4, .move, [.k (.b false)], none⟩] [1, 2] [2])
  (.seq
   (.reg [] [⟨some 5, .move, [.t 1], none⟩,
     ⟨some 6, .call [] false, [.f 120, .t 5], none⟩,
     ⟨some 7, .move, [.t 6], none⟩,
     ⟨some 8, .load (some 3) false, [.t 2], some (7, true)⟩,
     ⟨some 9, .move, [.t 1], some (7, true)⟩,
     ⟨some 10, .len, [.t 9], some (7, true)⟩,
     ⟨some 11, .call [] false, [.f 121, .t 8, .t 10], some (7, true)⟩,
     ⟨some 12, .pick, [.t 7, .t 11, .k (.b false)], none⟩,
     ⟨some 4, .move, [.t 12], none⟩] [4] [])
   .ret))
def a109 : AF := ⟨c109, [.tmp 4]⟩
/-- spec.l6Dec -/
def c143 : AC :=
 (.seq
  (.reg [] [⟨some 2, .move, [.k (.s ⟨#[]⟩)], none⟩] [0] [])
  (.seq
   (.seq
    (.reg [] [⟨some 3, .move, [.t 0], none⟩,
      ⟨some 4, .bin .lt, [.t 3, .k (.i (-9223372036854775807))], none⟩] [0, 4] [])
    (.cond (.t 4)
     (.seq
      (.reg [] [⟨some 2, .move, [.k (.s ⟨#[45, 57, 50, 50, 51, 51, 55, 50, 48, 51, 54, 56, 53, 52, 55, 55, 53, 56, 48, 56]⟩)], none⟩] [2] [])
      .ret)
     .skip))
   (.seq
    (.seq
     (.reg [] [⟨some 5, .move, [.t 0], none⟩,
       ⟨some 6, .bin .lt, [.t 5, .k (.i 0)], none⟩] [0, 6] [])
     (.cond (.t 6)
      (.seq
       (.reg [] [⟨some 7, .move, [.t 0], none⟩,
         ⟨some 8, .neg, [.t 7], none⟩,
         ⟨some 9, .call [] false, [.f 143, .t 8], none⟩,
         ⟨some 10, .bin .add, [.k (.s ⟨#[45]⟩), .t 9], none⟩,
         ⟨some 2, .move, [.t 10], none⟩] [2] [])
       .ret)
      .skip))
    (.seq
     (.seq
      (.reg [] [⟨some 11, .move, [.t 0], none⟩,
        ⟨some 12, .bin .lt, [.t 11, .k (.i 10)], none⟩] [0, 12] [])
      (.cond (.t 12)
       (.seq
        (.reg [] [⟨some 13, .move, [.t 0], none⟩,
          ⟨some 14, .bin .add, [.k (.i 48), .t 13], none⟩,
          ⟨some 15, .conv .u8, [.t 14], none⟩,
          ⟨some 16, .bslice 1 true, [.t 15], none⟩,
          ⟨some 17, .bstr, [.t 16], none⟩,
          ⟨some 2, .move, [.t 17], none⟩] [2] [])
        .ret)
       .skip))
     (.seq
      (.alt 2 7 6
       (.reg [0, 1, 6, 2, 3, 4, 5, 7, 8, 9, 10] [⟨some 18, .move, [.t 0], none⟩,
         ⟨some 19, .bin .quo, [.t 18, .k (.i 10)], none⟩,
         ⟨some 21, .move, [.t 0], none⟩,
         ⟨some 22, .bin .rem, [.t 21, .k (.i 10)], none⟩,
         ⟨some 23, .bin .add, [.k (.i 48), .t 22], none⟩,
         ⟨some 24, .conv .u8, [.t 23], none⟩,
         ⟨some 20, .call [] false, [.f 143, .t 19], none⟩,
         ⟨some 25, .bslice 1 true, [.t 24], none⟩,
         ⟨some 26, .bstr, [.t 25], none⟩,
         ⟨some 27, .bin .add, [.t 20, .t 26], none⟩,
         ⟨some 2, .move, [.t 27], none⟩] [2] [])
       (.reg [0, 1, 8, 2, 3, 4, 5, 6, 7, 10, 11] [⟨some 18, .move, [.t 0], none⟩,
         ⟨some 19, .bin .quo, [.t 18, .k (.i 10)], none⟩,
         ⟨some 21, .move, [.t 0], none⟩,
         ⟨some 22, .bin .rem, [.t 21, .k (.i 10)], none⟩,
         ⟨some 23, .bin .add, [.k (.i 48), .t 22], none⟩,
         ⟨some 24, .conv .u8, [.t 23], none⟩,
         ⟨some 25, .bslice 1 true, [.t 24], none⟩,
         ⟨some 26, .bstr, [.t 25], none⟩,
         ⟨some 20, .call [] false, [.f 143, .t 19], none⟩,
         ⟨none, .chk (.bstr), [.t 26, .t 25], none⟩,
         ⟨some 27, .bin .add, [.t 20, .t 26], none⟩,
         ⟨some 2, .move, [.t 27], none⟩] [2] []))
      .ret)))))
def a143 : AF := ⟨c143, [.tmp 2]⟩
/-- spec.l2Words -/
def c144 : AC :=
 (.seq
  (.reg [] [⟨some 0, .move, [.k (.nils)], none⟩] [] [])
  (.seq
   (.reg [] [⟨some 1, .bslice 1 true, [.k (.s ⟨#[]⟩), .k (.s ⟨#[97, 99, 116]⟩), .k (.s ⟨#[115, 117, 109]⟩), .k (.s ⟨#[112, 97, 114]⟩), .k (.s ⟨#[104, 105, 100, 101]⟩)], none⟩,
     ⟨some 0, .move, [.t 1], none⟩] [0] [1])
   .ret))
def a144 : AF := ⟨c144, [.tmp 0]⟩
/-- spec.l1Name -/
def c61 : AC :=
 (.seq
  (.reg [] [⟨some 2, .move, [.k (.i 0)], none⟩] [0] [])
  (.seq
   (.reg [] [⟨some 3, .move, [.t 0], none⟩,
     ⟨some 4, .move, [.t 0], none⟩,
     ⟨some 5, .neg, [.t 4], none⟩,
     ⟨some 6, .max2, [.t 3, .t 5], none⟩,
     ⟨some 7, .bin .sub, [.t 6, .k (.i 1)], none⟩,
     ⟨some 2, .move, [.t 7], none⟩] [2] [])
   .ret))
def a61 : AF := ⟨c61, [.tmp 2]⟩
/-- spec.l1Text -/
def c145 : AC :=
 (.seq
  (.reg [] [⟨some 2, .move, [.k (.s ⟨#[]⟩)], none⟩] [0] [])
  (.seq
   (.block 0
    (.seq
     (.reg [] [⟨some 4, .move, [.t 0], none⟩,
       ⟨some 5, .bin .eq, [.t 4, .k (.i 0)], none⟩,
       ⟨some 3, .move, [.t 5], none⟩] [0, 3] [])
     (.cond (.t 3)
      (.seq
       (.reg [] [⟨some 2, .move, [.k (.s ⟨#[116, 97, 117]⟩)], none⟩] [2] [])
       .ret)
      (.seq
       (.reg [] [⟨some 7, .move, [.t 0], none⟩,
         ⟨some 8, .bin .lt, [.t 7, .k (.i 0)], none⟩,
         ⟨some 6, .move, [.t 8], none⟩] [0, 6] [])
       (.cond (.t 6)
        (.seq
         (.reg [] [⟨some 9, .move, [.t 0], none⟩,
           ⟨some 10, .call [] false, [.f 61, .t 9], none⟩,
           ⟨some 11, .move, [.t 0], none⟩,
           ⟨some 12, .call [] false, [.f 61, .t 11], none⟩,
           ⟨some 13, .bin .add, [.t 12, .k (.i 1)], none⟩,
           ⟨some 14, .sstr true true, [.k (.s ⟨#[97, 98, 99, 100]⟩), .t 10, .t 13], none⟩,
           ⟨some 15, .bin .add, [.k (.s ⟨#[33]⟩), .t 14], none⟩,
           ⟨some 2, .move, [.t 15], none⟩] [2] [])
         .ret)
        .skip)))))
   (.seq
    (.reg [] [⟨some 16, .move, [.t 0], none⟩,
      ⟨some 17, .call [] false, [.f 61, .t 16], none⟩,
      ⟨some 18, .move, [.t 0], none⟩,
      ⟨some 19, .call [] false, [.f 61, .t 18], none⟩,
      ⟨some 20, .bin .add, [.t 19, .k (.i 1)], none⟩,
      ⟨some 21, .sstr true true, [.k (.s ⟨#[97, 98, 99, 100]⟩), .t 17, .t 20], none⟩,
      ⟨some 2, .move, [.t 21], none⟩] [2] [])
    .ret)))
def a145 : AF := ⟨c145, [.tmp 2]⟩
def b122l0 : AC :=
 (.seq
  (.seq
   (.reg [] [⟨some 40, .move, [.t 4], none⟩,
     ⟨some 41, .faddr 2, [.t 1], none⟩,
     ⟨some 42, .load none false, [.t 41], none⟩,
     ⟨some 43, .len, [.t 42], none⟩,
     ⟨some 44, .bin .lt, [.t 40, .t 43], none⟩] [1, 3, 4, 44] [1])
   (.cond (.t 44)
    .skip
    (.exit 1)))
  (.seq
   (.block 2
    (.reg [] [⟨some 47, .move, [.t 3], none⟩,
      ⟨some 48, .bin .add, [.t 47, .k (.s ⟨#[32]⟩)], none⟩,
      ⟨some 49, .faddr 2, [.t 1], none⟩,
      ⟨some 50, .load none false, [.t 49], none⟩,
      ⟨some 51, .move, [.t 4], none⟩,
      ⟨some 52, .iaddr 3, [.t 50, .t 51], none⟩,
      ⟨some 53, .load (some 3) false, [.t 52], none⟩,
      ⟨some 54, .call [] false, [.f 122, .t 53], none⟩,
      ⟨some 55, .bin .add, [.t 48, .t 54], none⟩,
      ⟨some 3, .move, [.t 55], none⟩] [1, 3, 4] [1]))
   (.reg [] [⟨some 45, .move, [.t 4], none⟩,
     ⟨some 46, .bin .add, [.t 45, .k (.i 1)], none⟩,
     ⟨some 4, .move, [.t 46], none⟩] [1, 3, 4] [1])))
def c122l0 : AC := b122l0
theorem r122l0 (call lp s) : run call lp c122l0 s = run call lp b122l0 s := rfl
/-- spec.l2Text -/
def c122 : AC :=
 (.seq
  (.reg [] [⟨some 1, .box, [.t 0], none⟩,
    ⟨some 2, .move, [.k (.s ⟨#[]⟩)], none⟩] [1] [1])
  (.seq
   (.seq
    (.reg [] [⟨some 5, .faddr 0, [.t 1], none⟩,
      ⟨some 6, .load none false, [.t 5], none⟩] [1, 6] [1])
    (.block 0
     (.seq
      (.reg [] [⟨some 8, .bin .eq, [.t 6, .k (.i 0)], none⟩,
        ⟨some 7, .move, [.t 8], none⟩] [1, 6, 7] [1])
      (.cond (.t 7)
       (.seq
        (.reg [] [⟨some 2, .move, [.k (.s ⟨#[48]⟩)], none⟩] [2] [])
        .ret)
       (.seq
        (.reg [] [⟨some 10, .bin .eq, [.t 6, .k (.i 5)], none⟩,
          ⟨some 9, .move, [.t 10], none⟩] [1, 9] [1])
        (.cond (.t 9)
         (.seq
          (.reg [] [⟨some 11, .faddr 1, [.t 1], none⟩,
            ⟨some 12, .load none false, [.t 11], none⟩,
            ⟨some 13, .call [] false, [.f 143, .t 12], none⟩,
            ⟨some 14, .bin .add, [.k (.s ⟨#[88]⟩), .t 13], none⟩,
            ⟨some 2, .move, [.t 14], none⟩] [2] [])
          .ret)
         .skip))))))
   (.seq
    (.reg [2, 0, 1, 5, 6, 7, 8] [⟨some 16, .faddr 0, [.t 1], none⟩,
      ⟨some 17, .load none false, [.t 16], none⟩,
      ⟨some 15, .call [] false, [.f 144], none⟩,
      ⟨none, .chk (.faddr 0), [.t 16, .t 1], none⟩,
      ⟨none, .chk (.load none false), [.t 17, .t 16], none⟩,
      ⟨some 18, .iaddr 1, [.t 15, .t 17], none⟩,
      ⟨some 19, .load none false, [.t 18], none⟩,
      ⟨some 20, .bin .add, [.k (.s ⟨#[40]⟩), .t 19], none⟩,
      ⟨some 3, .move, [.t 20], none⟩] [1, 3] [1])
    (.seq
     (.seq
      (.reg [] [⟨some 21, .faddr 0, [.t 1], none⟩,
        ⟨some 22, .load none false, [.t 21], none⟩,
        ⟨some 23, .bin .eq, [.t 22, .k (.i 1)], none⟩] [1, 3, 23] [1])
      (.cond (.t 23)
       (.reg [] [⟨some 24, .move, [.t 3], none⟩,
         ⟨some 25, .bin .add, [.t 24, .k (.s ⟨#[32]⟩)], none⟩,
         ⟨some 26, .faddr 1, [.t 1], none⟩,
         ⟨some 27, .load none false, [.t 26], none⟩,
         ⟨some 28, .call [] false, [.f 145, .t 27], none⟩,
         ⟨some 29, .bin .add, [.t 25, .t 28], none⟩,
         ⟨some 3, .move, [.t 29], none⟩] [1, 3] [1])
       .skip))
     (.seq
      (.seq
       (.reg [] [⟨some 30, .faddr 0, [.t 1], none⟩,
         ⟨some 31, .load none false, [.t 30], none⟩,
         ⟨some 32, .bin .eq, [.t 31, .k (.i 4)], none⟩] [1, 3, 32] [1])
       (.cond (.t 32)
        (.reg [] [⟨some 33, .move, [.t 3], none⟩,
          ⟨some 34, .bin .add, [.t 33, .k (.s ⟨#[32]⟩)], none⟩,
          ⟨some 35, .faddr 1, [.t 1], none⟩,
          ⟨some 36, .load none false, [.t 35], none⟩,
          ⟨some 37, .bin .add, [.t 36, .k (.i 1)], none⟩,
          ⟨some 38, .call [] false, [.f 145, .t 37], none⟩,
          ⟨some 39, .bin .add, [.t 34, .t 38], none⟩,
          ⟨some 3, .move, [.t 39], none⟩] [1, 3] [1])
        .skip))
      (.seq
       (.seq
        (.reg [] [⟨some 4, .move, [.k (.i 0)], none⟩] [1, 3, 4] [1])
        (.block 1
         (.loop [1, 3, 4] [1] c122l0)))
       (.seq
        (.reg [] [⟨some 56, .move, [.t 3], none⟩,
          ⟨some 57, .bin .add, [.t 56, .k (.s ⟨#[41]⟩)], none⟩,
          ⟨some 2, .move, [.t 57], none⟩] [2] [])
        .ret)))))))
def a122 : AF := ⟨c122, [.tmp 2]⟩
def b123l0 : AC :=
 (.seq
  (.seq
   (.reg [] [⟨some 58, .move, [.t 8], none⟩,
     ⟨some 59, .move, [.t 6], none⟩,
     ⟨some 60, .len, [.t 59], none⟩,
     ⟨some 61, .bin .lt, [.t 58, .t 60], none⟩] [2, 5, 6, 7, 8, 61] [2, 14, 28, 36, 43, 51, 57, 83, 109, 157, 206, 215])
   (.cond (.t 61)
    .skip
    (.exit 1)))
  (.seq
   (.block 2
    (.reg [0, 1, 2, 3, 4, 5, 6, 7, 8, 9, 10, 11, 12, 13, 14, 15, 19, 20, 21, 22, 23] [⟨some 64, .move, [.t 5], none⟩,
      ⟨some 65, .move, [.t 6], none⟩,
      ⟨some 66, .move, [.t 8], none⟩,
      ⟨some 67, .iaddr 4, [.t 65, .t 66], none⟩,
      ⟨some 68, .faddr 0, [.t 67], none⟩,
      ⟨some 69, .load none false, [.t 68], none⟩,
      ⟨some 70, .move, [.t 6], none⟩,
      ⟨some 71, .move, [.t 8], none⟩,
      ⟨some 72, .iaddr 4, [.t 70, .t 71], none⟩,
      ⟨some 73, .faddr 1, [.t 72], none⟩,
      ⟨some 74, .load (some 3) false, [.t 73], none⟩,
      ⟨some 75, .faddr 2, [.t 2], none⟩,
      ⟨some 76, .load none false, [.t 75], none⟩,
      ⟨some 77, .iaddr 3, [.t 76, .k (.i 1)], none⟩,
      ⟨some 78, .load (some 3) false, [.t 77], none⟩,
      ⟨some 79, .bslice 3 true, [.t 74, .t 78], none⟩,
      ⟨none, .chk (.iaddr 4), [.t 67, .t 65, .t 66], none⟩,
      ⟨none, .chk (.faddr 0), [.t 68, .t 67], none⟩,
      ⟨none, .chk (.load none false), [.t 69, .t 68], none⟩,
      ⟨some 80, .build [.i 0, .i 0, .nils] [(0, 1), (2, 1)], [.k (.i 3), .t 79], none⟩,
      ⟨some 81, .build [.i 0, .i 0, .i 0, .nils] [(0, 1), (1, 3)], [.t 69, .t 80], none⟩,
      ⟨some 82, .bslice 4 false, [.t 81], none⟩,
      ⟨some 83, .append 4 true, [.t 64, .t 82], none⟩,
      ⟨some 5, .move, [.t 83], none⟩] [2, 5, 6, 7, 8] [2, 14, 28, 36, 43, 51, 57, 83, 109, 157, 206, 215]))
   (.reg [] [⟨some 62, .move, [.t 8], none⟩,
     ⟨some 63, .bin .add, [.t 62, .k (.i 1)], none⟩,
     ⟨some 8, .move, [.t 63], none⟩] [2, 5, 6, 7, 8] [2, 14, 28, 36, 43, 51, 57, 83, 109, 157, 206, 215])))
def c123l0 : AC := b123l0
theorem r123l0 (call lp s) : run call lp c123l0 s = run call lp b123l0 s := rfl
def b123l1 : AC :=
 (.seq
  (.seq
   (.reg [] [⟨some 84, .move, [.t 9], none⟩,
     ⟨some 85, .move, [.t 7], none⟩,
     ⟨some 86, .len, [.t 85], none⟩,
     ⟨some 87, .bin .lt, [.t 84, .t 86], none⟩] [2, 5, 6, 7, 9, 87] [2, 14, 28, 36, 43, 51, 57, 83, 109, 157, 206, 215])
   (.cond (.t 87)
    .skip
    (.exit 3)))
  (.seq
   (.block 4
    (.reg [0, 1, 2, 3, 4, 5, 6, 7, 8, 9, 10, 11, 12, 13, 14, 15, 19, 20, 21, 22, 23] [⟨some 90, .move, [.t 5], none⟩,
      ⟨some 91, .move, [.t 7], none⟩,
      ⟨some 92, .move, [.t 9], none⟩,
      ⟨some 93, .iaddr 4, [.t 91, .t 92], none⟩,
      ⟨some 94, .faddr 0, [.t 93], none⟩,
      ⟨some 95, .load none false, [.t 94], none⟩,
      ⟨some 96, .faddr 2, [.t 2], none⟩,
      ⟨some 97, .load none false, [.t 96], none⟩,
      ⟨some 98, .iaddr 3, [.t 97, .k (.i 0)], none⟩,
      ⟨some 99, .load (some 3) false, [.t 98], none⟩,
      ⟨some 100, .move, [.t 7], none⟩,
      ⟨some 101, .move, [.t 9], none⟩,
      ⟨some 102, .iaddr 4, [.t 100, .t 101], none⟩,
      ⟨some 103, .faddr 1, [.t 102], none⟩,
      ⟨some 104, .load (some 3) false, [.t 103], none⟩,
      ⟨some 105, .bslice 3 true, [.t 99, .t 104], none⟩,
      ⟨none, .chk (.iaddr 4), [.t 93, .t 91, .t 92], none⟩,
      ⟨none, .chk (.faddr 0), [.t 94, .t 93], none⟩,
      ⟨none, .chk (.load none false), [.t 95, .t 94], none⟩,
      ⟨some 106, .build [.i 0, .i 0, .nils] [(0, 1), (2, 1)], [.k (.i 3), .t 105], none⟩,
      ⟨some 107, .build [.i 0, .i 0, .i 0, .nils] [(0, 1), (1, 3)], [.t 95, .t 106], none⟩,
      ⟨some 108, .bslice 4 false, [.t 107], none⟩,
      ⟨some 109, .append 4 true, [.t 90, .t 108], none⟩,
      ⟨some 5, .move, [.t 109], none⟩] [2, 5, 6, 7, 9] [2, 14, 28, 36, 43, 51, 57, 83, 109, 157, 206, 215]))
   (.reg [] [⟨some 88, .move, [.t 9], none⟩,
     ⟨some 89, .bin .add, [.t 88, .k (.i 1)], none⟩,
     ⟨some 9, .move, [.t 89], none⟩] [2, 5, 6, 7, 9] [2, 14, 28, 36, 43, 51, 57, 83, 109, 157, 206, 215])))
def c123l1 : AC := b123l1
theorem r123l1 (call lp s) : run call lp c123l1 s = run call lp b123l1 s := rfl
def b123l2 : AC :=
 (.seq
  (.seq
   (.reg [] [⟨some 116, .move, [.t 11], none⟩,
     ⟨some 117, .move, [.t 7], none⟩,
     ⟨some 118, .len, [.t 117], none⟩,
     ⟨some 119, .bin .lt, [.t 116, .t 118], none⟩] [5, 6, 7, 10, 11, 119] [14, 28, 36, 43, 51, 57, 83, 109, 157, 206, 215])
   (.cond (.t 119)
    .skip
    (.exit 7)))
  (.seq
   (.block 8
    (.seq
     (.reg [0, 1, 2, 3, 4, 5, 6, 7, 8, 9, 10, 11, 12, 13, 14, 15, 16, 17, 18, 19] [⟨some 122, .move, [.t 6], none⟩,
       ⟨some 123, .move, [.t 10], none⟩,
       ⟨some 124, .iaddr 4, [.t 122, .t 123], none⟩,
       ⟨some 125, .faddr 0, [.t 124], none⟩,
       ⟨some 126, .load none false, [.t 125], none⟩,
       ⟨some 127, .bin .ne, [.t 126, .k (.i 0)], none⟩,
       ⟨some 128, .move, [.t 127], none⟩,
       ⟨some 129, .move, [.t 6], some (128, true)⟩,
       ⟨some 130, .move, [.t 10], some (128, true)⟩,
       ⟨some 131, .iaddr 4, [.t 129, .t 130], some (128, true)⟩,
       ⟨some 132, .faddr 0, [.t 131], some (128, true)⟩,
       ⟨some 133, .load none false, [.t 132], some (128, true)⟩,
       ⟨some 134, .move, [.t 7], some (128, true)⟩,
       ⟨some 135, .move, [.t 11], some (128, true)⟩,
       ⟨some 136, .iaddr 4, [.t 134, .t 135], some (128, true)⟩,
       ⟨some 137, .faddr 0, [.t 136], some (128, true)⟩,
       ⟨some 138, .load none false, [.t 137], some (128, true)⟩,
       ⟨some 139, .neg, [.t 138], some (128, true)⟩,
       ⟨some 140, .bin .eq, [.t 133, .t 139], some (128, true)⟩,
       ⟨some 141, .pick, [.t 128, .t 140, .k (.b false)], none⟩] [5, 6, 7, 10, 11, 141] [14, 28, 36, 43, 51, 57, 83, 109, 157, 206, 215])
     (.cond (.t 141)
      (.reg [0, 1, 2, 3, 4, 5, 6, 7, 8, 9, 10, 11, 12, 13, 14, 15, 16] [⟨some 142, .move, [.t 5], none⟩,
        ⟨some 143, .move, [.t 6], none⟩,
        ⟨some 144, .move, [.t 10], none⟩,
        ⟨some 145, .iaddr 4, [.t 143, .t 144], none⟩,
        ⟨some 146, .faddr 1, [.t 145], none⟩,
        ⟨some 147, .load (some 3) false, [.t 146], none⟩,
        ⟨some 148, .move, [.t 7], none⟩,
        ⟨some 149, .move, [.t 11], none⟩,
        ⟨some 150, .iaddr 4, [.t 148, .t 149], none⟩,
        ⟨some 151, .faddr 1, [.t 150], none⟩,
        ⟨some 152, .load (some 3) false, [.t 151], none⟩,
        ⟨some 153, .bslice 3 true, [.t 147, .t 152], none⟩,
        ⟨some 154, .build [.i 0, .i 0, .nils] [(0, 1), (2, 1)], [.k (.i 3), .t 153], none⟩,
        ⟨some 155, .build [.i 0, .i 0, .i 0, .nils] [(1, 3)], [.t 154], none⟩,
        ⟨some 156, .bslice 4 false, [.t 155], none⟩,
        ⟨some 157, .append 4 true, [.t 142, .t 156], none⟩,
        ⟨some 5, .move, [.t 157], none⟩] [5, 6, 7, 10, 11] [14, 28, 36, 43, 51, 57, 83, 109, 157, 206, 215])
      .skip)))
   (.reg [] [⟨some 120, .move, [.t 11], none⟩,
     ⟨some 121, .bin .add, [.t 120, .k (.i 1)], none⟩,
     ⟨some 11, .move, [.t 121], none⟩] [5, 6, 7, 10, 11] [14, 28, 36, 43, 51, 57, 83, 109, 157, 206, 215])))
def c123l2 : AC := b123l2
theorem r123l2 (call lp s) : run call lp c123l2 s = run call lp b123l2 s := rfl
def b123l3 : AC :=
 (.seq
  (.seq
   (.reg [] [⟨some 110, .move, [.t 10], none⟩,
     ⟨some 111, .move, [.t 6], none⟩,
     ⟨some 112, .len, [.t 111], none⟩,
     ⟨some 113, .bin .lt, [.t 110, .t 112], none⟩] [5, 6, 7, 10, 113] [14, 28, 36, 43, 51, 57, 83, 109, 157, 206, 215])
   (.cond (.t 113)
    .skip
    (.exit 5)))
  (.seq
   (.block 6
    (.seq
     (.reg [] [⟨some 11, .move, [.k (.i 0)], none⟩] [5, 6, 7, 10, 11] [14, 28, 36, 43, 51, 57, 83, 109, 157, 206, 215])
     (.block 7
      (.loop [5, 6, 7, 10, 11] [14, 28, 36, 43, 51, 57, 83, 109, 157, 206, 215] c123l2))))
   (.reg [] [⟨some 114, .move, [.t 10], none⟩,
     ⟨some 115, .bin .add, [.t 114, .k (.i 1)], none⟩,
     ⟨some 10, .move, [.t 115], none⟩] [5, 6, 7, 10] [14, 28, 36, 43, 51, 57, 83, 109, 157, 206, 215])))
def c123l3 : AC := b123l3
theorem r123l3 (call lp s) : run call lp c123l3 s = run call lp b123l3 s := rfl
def b123l4 : AC :=
 (.seq
  (.seq
   (.reg [] [⟨some 166, .move, [.t 13], none⟩,
     ⟨some 167, .move, [.t 12], none⟩,
     ⟨some 168, .len, [.t 167], none⟩,
     ⟨some 169, .bin .lt, [.t 166, .t 168], none⟩] [2, 5, 12, 13, 169] [2, 14, 28, 36, 43, 83, 109, 157, 165, 206, 215])
   (.cond (.t 169)
    .skip
    (.exit 9)))
  (.seq
   (.block 10
    (.seq
     (.reg [0, 1, 2, 3, 4, 5, 6, 7, 8, 9, 10, 11, 14, 12, 13, 17, 18] [⟨some 172, .move, [.t 12], none⟩,
       ⟨some 173, .move, [.t 13], none⟩,
       ⟨some 174, .iaddr 4, [.t 172, .t 173], none⟩,
       ⟨some 175, .faddr 0, [.t 174], none⟩,
       ⟨some 176, .load none false, [.t 175], none⟩,
       ⟨some 177, .bin .eq, [.t 176, .k (.i 0)], none⟩,
       ⟨some 178, .move, [.t 177], none⟩,
       ⟨some 179, .move, [.t 12], some (178, false)⟩,
       ⟨some 180, .move, [.t 13], some (178, false)⟩,
       ⟨some 181, .iaddr 4, [.t 179, .t 180], some (178, false)⟩,
       ⟨some 182, .faddr 0, [.t 181], some (178, false)⟩,
       ⟨some 183, .load none false, [.t 182], some (178, false)⟩,
       ⟨some 185, .faddr 1, [.t 2], some (178, false)⟩,
       ⟨some 186, .load none false, [.t 185], some (178, false)⟩,
       ⟨some 184, .call [] false, [.f 61, .t 183], some (178, false)⟩,
       ⟨none, .chk (.faddr 1), [.t 185, .t 2], some (178, false)⟩,
       ⟨none, .chk (.load none false), [.t 186, .t 185], some (178, false)⟩,
       ⟨some 187, .bin .ne, [.t 184, .t 186], some (178, false)⟩,
       ⟨some 188, .pick, [.t 178, .k (.b true), .t 187], none⟩] [2, 5, 12, 13, 188] [2, 14, 28, 36, 43, 83, 109, 157, 165, 206, 215])
     (.cond (.t 188)
      (.reg [0, 1, 2, 3, 4, 5, 6, 7, 8, 9, 10, 11, 12, 13, 19, 20, 21, 22, 23] [⟨some 189, .move, [.t 5], none⟩,
        ⟨some 190, .move, [.t 12], none⟩,
        ⟨some 191, .move, [.t 13], none⟩,
        ⟨some 192, .iaddr 4, [.t 190, .t 191], none⟩,
        ⟨some 193, .faddr 0, [.t 192], none⟩,
        ⟨some 194, .load none false, [.t 193], none⟩,
        ⟨some 195, .faddr 1, [.t 2], none⟩,
        ⟨some 196, .load none false, [.t 195], none⟩,
        ⟨some 197, .move, [.t 12], none⟩,
        ⟨some 198, .move, [.t 13], none⟩,
        ⟨some 199, .iaddr 4, [.t 197, .t 198], none⟩,
        ⟨some 200, .faddr 1, [.t 199], none⟩,
        ⟨some 201, .load (some 3) false, [.t 200], none⟩,
        ⟨some 202, .bslice 3 true, [.t 201], none⟩,
        ⟨none, .chk (.iaddr 4), [.t 192, .t 190, .t 191], none⟩,
        ⟨none, .chk (.faddr 0), [.t 193, .t 192], none⟩,
        ⟨none, .chk (.load none false), [.t 194, .t 193], none⟩,
        ⟨none, .chk (.faddr 1), [.t 195, .t 2], none⟩,
        ⟨none, .chk (.load none false), [.t 196, .t 195], none⟩,
        ⟨some 203, .build [.i 0, .i 0, .nils] [(0, 1), (1, 1), (2, 1)], [.k (.i 4), .t 196, .t 202], none⟩,
        ⟨some 204, .build [.i 0, .i 0, .i 0, .nils] [(0, 1), (1, 3)], [.t 194, .t 203], none⟩,
        ⟨some 205, .bslice 4 false, [.t 204], none⟩,
        ⟨some 206, .append 4 true, [.t 189, .t 205], none⟩,
        ⟨some 5, .move, [.t 206], none⟩] [2, 5, 12, 13] [2, 14, 28, 36, 43, 83, 109, 157, 165, 206, 215])
      .skip)))
   (.reg [] [⟨some 170, .move, [.t 13], none⟩,
     ⟨some 171, .bin .add, [.t 170, .k (.i 1)], none⟩,
     ⟨some 13, .move, [.t 171], none⟩] [2, 5, 12, 13] [2, 14, 28, 36, 43, 83, 109, 157, 165, 206, 215])))
def c123l4 : AC := b123l4
theorem r123l4 (call lp s) : run call lp c123l4 s = run call lp b123l4 s := rfl
/-- spec.l3Steps -/
def c123 : AC :=
 (.seq
  (.reg [] [⟨some 2, .box, [.t 0], none⟩,
    ⟨some 4, .move, [.k (.nils)], none⟩] [1, 2] [2])
  (.seq
   (.reg [] [⟨some 14, .eslice 4, [], none⟩,
     ⟨some 5, .move, [.t 14], none⟩] [1, 2, 5] [2, 14, 28, 36, 43, 83, 109, 157, 206, 215])
   (.seq
    (.seq
     (.reg [] [⟨some 15, .faddr 0, [.t 2], none⟩,
       ⟨some 16, .load none false, [.t 15], none⟩] [1, 2, 5, 16] [2, 14, 28, 36, 43, 83, 109, 157, 206, 215])
     (.block 0
      (.seq
       (.reg [] [⟨some 18, .bin .eq, [.t 16, .k (.i 1)], none⟩,
         ⟨some 17, .move, [.t 18], none⟩] [1, 2, 5, 16, 17] [2, 14, 28, 36, 43, 83, 109, 157, 206, 215])
       (.cond (.t 17)
        (.reg [0, 1, 2, 3, 4, 5, 6, 7, 8, 9, 10] [⟨some 19, .move, [.t 5], none⟩,
          ⟨some 20, .faddr 1, [.t 2], none⟩,
          ⟨some 21, .load none false, [.t 20], none⟩,
          ⟨some 22, .faddr 2, [.t 2], none⟩,
          ⟨some 23, .load none false, [.t 22], none⟩,
          ⟨some 24, .iaddr 3, [.t 23, .k (.i 0)], none⟩,
          ⟨some 25, .load (some 3) false, [.t 24], none⟩,
          ⟨some 26, .build [.i 0, .i 0, .i 0, .nils] [(0, 1), (1, 3)], [.t 21, .t 25], none⟩,
          ⟨some 27, .bslice 4 true, [.t 26], none⟩,
          ⟨some 28, .append 4 true, [.t 19, .t 27], none⟩,
          ⟨some 5, .move, [.t 28], none⟩] [5] [14, 28, 36, 43, 83, 109, 157, 206, 215])
        (.seq
         (.reg [] [⟨some 30, .bin .eq, [.t 16, .k (.i 2)], none⟩,
           ⟨some 29, .move, [.t 30], none⟩] [1, 2, 5, 16, 29] [2, 14, 28, 36, 43, 83, 109, 157, 206, 215])
         (.cond (.t 29)
          (.reg [0, 1, 2, 3, 4, 10, 5, 6, 7, 8, 9, 15, 16, 17] [⟨some 31, .faddr 2, [.t 2], none⟩,
            ⟨some 32, .load none false, [.t 31], none⟩,
            ⟨some 33, .iaddr 3, [.t 32, .k (.i 0)], none⟩,
            ⟨some 34, .load (some 3) false, [.t 33], none⟩,
            ⟨some 35, .move, [.t 1], none⟩,
            ⟨some 37, .faddr 2, [.t 2], none⟩,
            ⟨some 38, .load none false, [.t 37], none⟩,
            ⟨some 39, .iaddr 3, [.t 38, .k (.i 1)], none⟩,
            ⟨some 40, .load (some 3) false, [.t 39], none⟩,
            ⟨some 41, .move, [.t 1], none⟩,
            ⟨some 36, .call [] false, [.f 123, .t 34, .t 35], none⟩,
            ⟨none, .chk (.faddr 2), [.t 37, .t 2], none⟩,
            ⟨none, .chk (.load none false), [.t 38, .t 37], none⟩,
            ⟨none, .chk (.iaddr 3), [.t 39, .t 38, .k (.i 1)], none⟩,
            ⟨none, .chk (.load (some 3) false), [.t 40, .t 39], none⟩,
            ⟨some 42, .call [] false, [.f 123, .t 40, .t 41], none⟩,
            ⟨some 43, .append 4 true, [.t 36, .t 42], none⟩,
            ⟨some 5, .move, [.t 43], none⟩] [5] [14, 28, 36, 43, 83, 109, 157, 206, 215])
          (.seq
           (.reg [] [⟨some 45, .bin .eq, [.t 16, .k (.i 3)], none⟩,
             ⟨some 44, .move, [.t 45], none⟩] [1, 2, 5, 16, 44] [2, 14, 28, 36, 43, 83, 109, 157, 206, 215])
           (.cond (.t 44)
            (.seq
             (.reg [] [⟨some 46, .faddr 2, [.t 2], none⟩,
               ⟨some 47, .load none false, [.t 46], none⟩,
               ⟨some 48, .iaddr 3, [.t 47, .k (.i 0)], none⟩,
               ⟨some 49, .load (some 3) false, [.t 48], none⟩,
               ⟨some 50, .move, [.t 1], none⟩,
               ⟨some 51, .call [] false, [.f 123, .t 49, .t 50], none⟩,
               ⟨some 6, .move, [.t 51], none⟩] [1, 2, 5, 6] [2, 14, 28, 36, 43, 51, 83, 109, 157, 206, 215])
             (.seq
              (.reg [] [⟨some 52, .faddr 2, [.t 2], none⟩,
                ⟨some 53, .load none false, [.t 52], none⟩,
                ⟨some 54, .iaddr 3, [.t 53, .k (.i 1)], none⟩,
                ⟨some 55, .load (some 3) false, [.t 54], none⟩,
                ⟨some 56, .move, [.t 1], none⟩,
                ⟨some 57, .call [] false, [.f 123, .t 55, .t 56], none⟩,
                ⟨some 7, .move, [.t 57], none⟩] [2, 5, 6, 7] [2, 14, 28, 36, 43, 51, 57, 83, 109, 157, 206, 215])
              (.seq
               (.seq
                (.reg [] [⟨some 8, .move, [.k (.i 0)], none⟩] [2, 5, 6, 7, 8] [2, 14, 28, 36, 43, 51, 57, 83, 109, 157, 206, 215])
                (.block 1
                 (.loop [2, 5, 6, 7, 8] [2, 14, 28, 36, 43, 51, 57, 83, 109, 157, 206, 215] c123l0)))
               (.seq
                (.seq
                 (.reg [] [⟨some 9, .move, [.k (.i 0)], none⟩] [2, 5, 6, 7, 9] [2, 14, 28, 36, 43, 51, 57, 83, 109, 157, 206, 215])
                 (.block 3
                  (.loop [2, 5, 6, 7, 9] [2, 14, 28, 36, 43, 51, 57, 83, 109, 157, 206, 215] c123l1)))
                (.seq
                 (.reg [] [⟨some 10, .move, [.k (.i 0)], none⟩] [5, 6, 7, 10] [14, 28, 36, 43, 51, 57, 83, 109, 157, 206, 215])
                 (.block 5
                  (.loop [5, 6, 7, 10] [14, 28, 36, 43, 51, 57, 83, 109, 157, 206, 215] c123l3)))))))
            (.seq
             (.reg [] [⟨some 159, .bin .eq, [.t 16, .k (.i 4)], none⟩,
               ⟨some 158, .move, [.t 159], none⟩] [1, 2, 5, 16, 158] [2, 14, 28, 36, 43, 83, 109, 157, 206, 215])
             (.cond (.t 158)
              (.seq
               (.reg [] [⟨some 160, .faddr 2, [.t 2], none⟩,
                 ⟨some 161, .load none false, [.t 160], none⟩,
                 ⟨some 162, .iaddr 3, [.t 161, .k (.i 0)], none⟩,
                 ⟨some 163, .load (some 3) false, [.t 162], none⟩,
                 ⟨some 164, .move, [.t 1], none⟩,
                 ⟨some 165, .call [] false, [.f 123, .t 163, .t 164], none⟩,
                 ⟨some 12, .move, [.t 165], none⟩] [2, 5, 12] [2, 14, 28, 36, 43, 83, 109, 157, 165, 206, 215])
               (.seq
                (.reg [] [⟨some 13, .move, [.k (.i 0)], none⟩] [2, 5, 12, 13] [2, 14, 28, 36, 43, 83, 109, 157, 165, 206, 215])
                (.block 9
                 (.loop [2, 5, 12, 13] [2, 14, 28, 36, 43, 83, 109, 157, 165, 206, 215] c123l4))))
              (.seq
               (.reg [] [⟨some 208, .bin .eq, [.t 16, .k (.i 5)], none⟩,
                 ⟨some 207, .move, [.t 208], none⟩] [1, 2, 5, 207] [2, 14, 28, 36, 43, 83, 109, 157, 206, 215])
               (.cond (.t 207)
                (.reg [] [⟨some 209, .move, [.t 1], none⟩,
                  ⟨some 210, .faddr 1, [.t 2], none⟩,
                  ⟨some 211, .load none false, [.t 210], none⟩,
                  ⟨some 212, .iaddr 3, [.t 209, .t 211], none⟩,
                  ⟨some 213, .load (some 3) false, [.t 212], none⟩,
                  ⟨some 214, .move, [.t 1], none⟩,
                  ⟨some 215, .call [] false, [.f 123, .t 213, .t 214], none⟩,
                  ⟨some 5, .move, [.t 215], none⟩] [5] [14, 28, 36, 43, 83, 109, 157, 206, 215])
                .skip))))))))))))
    (.seq
     (.reg [] [⟨some 216, .move, [.t 5], none⟩,
       ⟨some 4, .move, [.t 216], none⟩] [4] [14, 28, 36, 43, 83, 109, 157, 206, 215])
     .ret))))
def a123 : AF := ⟨c123, [.tmp 4]⟩
/-- spec.l3Less -/
def c90 : AC :=
 (.seq
  (.reg [] [⟨some 2, .box, [.t 0], none⟩,
    ⟨some 3, .box, [.t 1], none⟩,
    ⟨some 4, .move, [.k (.b false)], none⟩] [2, 3] [2, 3])
  (.seq
   (.reg [] [⟨some 5, .faddr 0, [.t 2], none⟩,
     ⟨some 6, .load none false, [.t 5], none⟩,
     ⟨some 7, .faddr 0, [.t 3], none⟩,
     ⟨some 8, .load none false, [.t 7], none⟩,
     ⟨some 9, .bin .lt, [.t 6, .t 8], none⟩,
     ⟨some 10, .move, [.t 9], none⟩,
     ⟨some 11, .faddr 0, [.t 2], some (10, false)⟩,
     ⟨some 12, .load none false, [.t 11], some (10, false)⟩,
     ⟨some 13, .faddr 0, [.t 3], some (10, false)⟩,
     ⟨some 14, .load none false, [.t 13], some (10, false)⟩,
     ⟨some 15, .bin .eq, [.t 12, .t 14], some (10, false)⟩,
     ⟨some 16, .move, [.t 15], some (10, false)⟩,
     ⟨some 17, .faddr 1, [.t 2], some (16, true)⟩,
     ⟨some 18, .load none false, [.t 17], some (16, true)⟩,
     ⟨some 19, .faddr 1, [.t 3], some (16, true)⟩,
     ⟨some 20, .load none false, [.t 19], some (16, true)⟩,
     ⟨some 21, .bin .lt, [.t 18, .t 20], some (16, true)⟩,
     ⟨some 22, .pick, [.t 16, .t 21, .k (.b false)], some (10, false)⟩,
     ⟨some 23, .pick, [.t 10, .k (.b true), .t 22], none⟩,
     ⟨some 4, .move, [.t 23], none⟩] [4] [])
   .ret))
def a90 : AF := ⟨c90, [.tmp 4]⟩
def b68l0 : AC :=
 (.seq
  (.seq
   (.reg [0, 1, 2, 3, 4, 5, 6, 7, 8, 9, 10, 11, 12, 13] [⟨some 16, .move, [.t 5], none⟩,
     ⟨some 17, .bin .gt, [.t 16, .k (.i 0)], none⟩,
     ⟨some 18, .move, [.t 17], none⟩,
     ⟨some 19, .move, [.t 0], some (18, true)⟩,
     ⟨some 20, .move, [.t 4], some (18, true)⟩,
     ⟨some 21, .iaddr 2, [.t 19, .t 20], some (18, true)⟩,
     ⟨some 22, .load (some 2) false, [.t 21], some (18, true)⟩,
     ⟨some 23, .move, [.t 3], some (18, true)⟩,
     ⟨some 24, .move, [.t 5], some (18, true)⟩,
     ⟨some 25, .bin .sub, [.t 24, .k (.i 1)], some (18, true)⟩,
     ⟨some 26, .iaddr 2, [.t 23, .t 25], some (18, true)⟩,
     ⟨some 27, .load (some 2) false, [.t 26], some (18, true)⟩,
     ⟨some 28, .call [] false, [.f 90, .t 22, .t 27], some (18, true)⟩,
     ⟨some 29, .pick, [.t 18, .t 28, .k (.b false)], none⟩] [0, 3, 4, 5, 29] [7, 49])
   (.cond (.t 29)
    .skip
    (.exit 2)))
  (.block 3
   (.reg [] [⟨some 30, .move, [.t 5], none⟩,
     ⟨some 31, .bin .sub, [.t 30, .k (.i 1)], none⟩,
     ⟨some 5, .move, [.t 31], none⟩] [0, 3, 4, 5] [7, 49])))
def c68l0 : AC := b68l0
theorem r68l0 (call lp s) : run call lp c68l0 s = run call lp b68l0 s := rfl
def b68l1 : AC :=
 (.seq
  (.seq
   (.reg [] [⟨some 53, .move, [.t 6], none⟩,
     ⟨some 54, .move, [.t 5], none⟩,
     ⟨some 55, .bin .gt, [.t 53, .t 54], none⟩] [0, 3, 4, 5, 6, 55] [7, 49])
   (.cond (.t 55)
    .skip
    (.exit 4)))
  (.seq
   (.block 5
    (.reg [] [⟨some 58, .move, [.t 3], none⟩,
      ⟨some 59, .move, [.t 6], none⟩,
      ⟨some 60, .move, [.t 3], none⟩,
      ⟨some 61, .move, [.t 6], none⟩,
      ⟨some 62, .bin .sub, [.t 61, .k (.i 1)], none⟩,
      ⟨some 63, .iaddr 2, [.t 60, .t 62], none⟩,
      ⟨some 64, .load (some 2) false, [.t 63], none⟩,
      ⟨some 65, .iaddr 2, [.t 58, .t 59], none⟩,
      ⟨none, .store 2 true, [.t 65, .t 64], none⟩] [0, 3, 4, 5, 6] [7, 49]))
   (.reg [] [⟨some 56, .move, [.t 6], none⟩,
     ⟨some 57, .bin .sub, [.t 56, .k (.i 1)], none⟩,
     ⟨some 6, .move, [.t 57], none⟩] [0, 3, 4, 5, 6] [7, 49])))
def c68l1 : AC := b68l1
theorem r68l1 (call lp s) : run call lp c68l1 s = run call lp b68l1 s := rfl
def b68l2 : AC :=
 (.seq
  (.seq
   (.reg [] [⟨some 8, .move, [.t 4], none⟩,
     ⟨some 9, .move, [.t 0], none⟩,
     ⟨some 10, .len, [.t 9], none⟩,
     ⟨some 11, .bin .lt, [.t 8, .t 10], none⟩] [0, 3, 4, 11] [7, 49])
   (.cond (.t 11)
    .skip
    (.exit 0)))
  (.seq
   (.block 1
    (.seq
     (.reg [] [⟨some 14, .move, [.t 3], none⟩,
       ⟨some 15, .len, [.t 14], none⟩,
       ⟨some 5, .move, [.t 15], none⟩] [0, 3, 4, 5] [7, 49])
     (.seq
      (.block 2
       (.loop [0, 3, 4, 5] [7, 49] c68l0))
      (.seq
       (.seq
        (.reg [0, 1, 2, 3, 4, 5, 6, 7, 8, 9, 10, 11, 12, 13] [⟨some 32, .move, [.t 5], none⟩,
          ⟨some 33, .bin .gt, [.t 32, .k (.i 0)], none⟩,
          ⟨some 34, .move, [.t 33], none⟩,
          ⟨some 35, .move, [.t 3], some (34, true)⟩,
          ⟨some 36, .move, [.t 5], some (34, true)⟩,
          ⟨some 37, .bin .sub, [.t 36, .k (.i 1)], some (34, true)⟩,
          ⟨some 38, .iaddr 2, [.t 35, .t 37], some (34, true)⟩,
          ⟨some 39, .load (some 2) false, [.t 38], some (34, true)⟩,
          ⟨some 40, .move, [.t 0], some (34, true)⟩,
          ⟨some 41, .move, [.t 4], some (34, true)⟩,
          ⟨some 42, .iaddr 2, [.t 40, .t 41], some (34, true)⟩,
          ⟨some 43, .load (some 2) false, [.t 42], some (34, true)⟩,
          ⟨some 44, .meq false, [.t 39, .t 43], some (34, true)⟩,
          ⟨some 45, .pick, [.t 34, .t 44, .k (.b false)], none⟩] [0, 3, 4, 5, 45] [7, 49])
        (.cond (.t 45)
         (.exit 1)
         .skip))
       (.seq
        (.reg [] [⟨some 46, .move, [.t 3], none⟩,
          ⟨some 47, .build [.i 0, .i 0] [], [], none⟩,
          ⟨some 48, .bslice 2 true, [.t 47], none⟩,
          ⟨some 49, .append 2 true, [.t 46, .t 48], none⟩,
          ⟨some 3, .move, [.t 49], none⟩] [0, 3, 4, 5] [7, 49])
        (.seq
         (.seq
          (.reg [] [⟨some 50, .move, [.t 3], none⟩,
            ⟨some 51, .len, [.t 50], none⟩,
            ⟨some 52, .bin .sub, [.t 51, .k (.i 1)], none⟩,
            ⟨some 6, .move, [.t 52], none⟩] [0, 3, 4, 5, 6] [7, 49])
          (.block 4
           (.loop [0, 3, 4, 5, 6] [7, 49] c68l1)))
         (.reg [] [⟨some 66, .move, [.t 3], none⟩,
           ⟨some 67, .move, [.t 5], none⟩,
           ⟨some 68, .move, [.t 0], none⟩,
           ⟨some 69, .move, [.t 4], none⟩,
           ⟨some 70, .iaddr 2, [.t 68, .t 69], none⟩,
           ⟨some 71, .load (some 2) false, [.t 70], none⟩,
           ⟨some 72, .iaddr 2, [.t 66, .t 67], none⟩,
           ⟨none, .store 2 true, [.t 72, .t 71], none⟩] [0, 3, 4] [7, 49])))))))
   (.reg [] [⟨some 12, .move, [.t 4], none⟩,
     ⟨some 13, .bin .add, [.t 12, .k (.i 1)], none⟩,
     ⟨some 4, .move, [.t 13], none⟩] [0, 3, 4] [7, 49])))
def c68l2 : AC := b68l2
theorem r68l2 (call lp s) : run call lp c68l2 s = run call lp b68l2 s := rfl
/-- spec.l3Sorted -/
def c68 : AC :=
 (.seq
  (.reg [] [⟨some 2, .move, [.k (.nils)], none⟩] [0] [])
  (.seq
   (.reg [] [⟨some 7, .bslice 2 true, [], none⟩,
     ⟨some 3, .move, [.t 7], none⟩] [0, 3] [7, 49])
   (.seq
    (.seq
     (.reg [] [⟨some 4, .move, [.k (.i 0)], none⟩] [0, 3, 4] [7, 49])
     (.block 0
      (.loop [0, 3, 4] [7, 49] c68l2)))
    (.seq
     (.reg [] [⟨some 73, .move, [.t 3], none⟩,
       ⟨some 2, .move, [.t 73], none⟩] [2] [7, 49])
     .ret))))
def a68 : AF := ⟨c68, [.tmp 2]⟩
def b110l0 : AC :=
 (.seq
  (.seq
   (.reg [] [⟨some 46, .move, [.t 14], none⟩,
     ⟨some 47, .move, [.t 7], none⟩,
     ⟨some 48, .len, [.t 47], none⟩,
     ⟨some 49, .bin .lt, [.t 46, .t 48], none⟩,
     ⟨some 50, .move, [.t 49], none⟩,
     ⟨some 51, .move, [.t 7], some (50, true)⟩,
     ⟨some 52, .move, [.t 14], some (50, true)⟩,
     ⟨some 53, .iaddr 1, [.t 51, .t 52], some (50, true)⟩,
     ⟨some 54, .load none false, [.t 53], some (50, true)⟩,
     ⟨some 55, .move, [.t 13], some (50, true)⟩,
     ⟨some 56, .bin .ne, [.t 54, .t 55], some (50, true)⟩,
     ⟨some 57, .pick, [.t 50, .t 56, .k (.b false)], none⟩] [1, 4, 6, 7, 8, 9, 10, 11, 12, 13, 14, 57] [4, 8, 16, 19, 32, 33, 83, 87, 97, 103])
   (.cond (.t 57)
    .skip
    (.exit 4)))
  (.block 5
   (.reg [] [⟨some 58, .move, [.t 14], none⟩,
     ⟨some 59, .bin .add, [.t 58, .k (.i 1)], none⟩,
     ⟨some 14, .move, [.t 59], none⟩] [1, 4, 6, 7, 8, 9, 10, 11, 12, 13, 14] [4, 8, 16, 19, 32, 33, 83, 87, 97, 103])))
def c110l0 : AC := b110l0
theorem r110l0 (call lp s) : run call lp c110l0 s = run call lp b110l0 s := rfl
def b110l1 : AC :=
 (.seq
  (.seq
   (.reg [] [⟨some 34, .move, [.t 12], none⟩,
     ⟨some 35, .move, [.t 10], none⟩,
     ⟨some 36, .len, [.t 35], none⟩,
     ⟨some 37, .bin .lt, [.t 34, .t 36], none⟩] [1, 4, 6, 7, 8, 9, 10, 11, 12, 37] [4, 8, 16, 19, 32, 33, 83, 87, 97, 103])
   (.cond (.t 37)
    .skip
    (.exit 2)))
  (.seq
   (.block 3
    (.seq
     (.reg [] [⟨some 40, .move, [.t 10], none⟩,
       ⟨some 41, .move, [.t 12], none⟩,
       ⟨some 42, .iaddr 4, [.t 40, .t 41], none⟩,
       ⟨some 43, .faddr 1, [.t 42], none⟩,
       ⟨some 44, .load (some 3) false, [.t 43], none⟩,
       ⟨some 45, .call [] false, [.f 122, .t 44], none⟩,
       ⟨some 13, .move, [.t 45], none⟩] [1, 4, 6, 7, 8, 9, 10, 11, 12, 13] [4, 8, 16, 19, 32, 33, 83, 87, 97, 103])
     (.seq
      (.reg [] [⟨some 14, .move, [.k (.i 0)], none⟩] [1, 4, 6, 7, 8, 9, 10, 11, 12, 13, 14] [4, 8, 16, 19, 32, 33, 83, 87, 97, 103])
      (.seq
       (.block 4
        (.loop [1, 4, 6, 7, 8, 9, 10, 11, 12, 13, 14] [4, 8, 16, 19, 32, 33, 83, 87, 97, 103] c110l0))
       (.seq
        (.seq
         (.reg [] [⟨some 60, .move, [.t 14], none⟩,
           ⟨some 61, .move, [.t 7], none⟩,
           ⟨some 62, .len, [.t 61], none⟩,
           ⟨some 63, .bin .eq, [.t 60, .t 62], none⟩] [1, 4, 6, 7, 8, 9, 10, 11, 12, 13, 14, 63] [4, 8, 16, 19, 32, 33, 83, 87, 97, 103])
         (.cond (.t 63)
          (.seq
           (.seq
            (.reg [] [⟨some 64, .move, [.t 14], none⟩,
              ⟨some 65, .bin .eq, [.t 64, .k (.i 60)], none⟩,
              ⟨some 66, .move, [.t 65], none⟩,
              ⟨some 67, .move, [.t 10], some (66, false)⟩,
              ⟨some 68, .move, [.t 12], some (66, false)⟩,
              ⟨some 69, .iaddr 4, [.t 67, .t 68], some (66, false)⟩,
              ⟨some 70, .faddr 1, [.t 69], some (66, false)⟩,
              ⟨some 71, .load (some 3) false, [.t 70], some (66, false)⟩,
              ⟨some 72, .call [] false, [.f 124, .t 71], some (66, false)⟩,
              ⟨some 73, .bin .gt, [.t 72, .k (.i 24)], some (66, false)⟩,
              ⟨some 74, .pick, [.t 66, .k (.b true), .t 73], none⟩] [1, 4, 6, 7, 8, 9, 10, 11, 12, 13, 14, 74] [4, 8, 16, 19, 32, 33, 83, 87, 97, 103])
            (.cond (.t 74)
             (.seq
              (.reg [] [⟨some 75, .build [.nils] [], [], none⟩,
                ⟨none, .store 1 true, [.t 4, .t 75], none⟩,
                ⟨some 5, .move, [.k (.b false)], none⟩] [4, 5] [4, 103])
              .ret)
             .skip))
           (.seq
            (.reg [] [⟨some 76, .move, [.t 6], none⟩,
              ⟨some 77, .move, [.t 10], none⟩,
              ⟨some 78, .move, [.t 12], none⟩,
              ⟨some 79, .iaddr 4, [.t 77, .t 78], none⟩,
              ⟨some 80, .faddr 1, [.t 79], none⟩,
              ⟨some 81, .load (some 3) false, [.t 80], none⟩,
              ⟨some 82, .bslice 3 true, [.t 81], none⟩,
              ⟨some 83, .append 3 true, [.t 76, .t 82], none⟩,
              ⟨some 6, .move, [.t 83], none⟩] [1, 4, 6, 7, 8, 9, 10, 11, 12, 13, 14] [4, 8, 16, 19, 32, 33, 83, 87, 97, 103])
            (.reg [] [⟨some 84, .move, [.t 7], none⟩,
              ⟨some 85, .move, [.t 13], none⟩,
              ⟨some 86, .bslice 1 true, [.t 85], none⟩,
              ⟨some 87, .append 1 true, [.t 84, .t 86], none⟩,
              ⟨some 7, .move, [.t 87], none⟩] [1, 4, 6, 7, 8, 9, 10, 11, 12, 14] [4, 8, 16, 19, 32, 33, 83, 87, 97, 103])))
          .skip))
        (.reg [] [⟨some 88, .move, [.t 11], none⟩,
          ⟨some 89, .move, [.t 10], none⟩,
          ⟨some 90, .move, [.t 12], none⟩,
          ⟨some 91, .iaddr 4, [.t 89, .t 90], none⟩,
          ⟨some 92, .faddr 0, [.t 91], none⟩,
          ⟨some 93, .load none false, [.t 92], none⟩,
          ⟨some 94, .move, [.t 14], none⟩,
          ⟨some 95, .build [.i 0, .i 0] [(0, 1), (1, 1)], [.t 93, .t 94], none⟩,
          ⟨some 96, .bslice 2 true, [.t 95], none⟩,
          ⟨some 97, .append 2 true, [.t 88, .t 96], none⟩,
          ⟨some 11, .move, [.t 97], none⟩] [1, 4, 6, 7, 8, 9, 10, 11, 12] [4, 8, 16, 19, 32, 33, 83, 87, 97, 103]))))))
   (.reg [] [⟨some 38, .move, [.t 12], none⟩,
     ⟨some 39, .bin .add, [.t 38, .k (.i 1)], none⟩,
     ⟨some 12, .move, [.t 39], none⟩] [1, 4, 6, 7, 8, 9, 10, 11, 12] [4, 8, 16, 19, 32, 33, 83, 87, 97, 103])))
def c110l1 : AC := b110l1
theorem r110l1 (call lp s) : run call lp c110l1 s = run call lp b110l1 s := rfl
def b110l2 : AC :=
 (.seq
  (.seq
   (.reg [] [⟨some 21, .move, [.t 9], none⟩,
     ⟨some 22, .move, [.t 6], none⟩,
     ⟨some 23, .len, [.t 22], none⟩,
     ⟨some 24, .bin .lt, [.t 21, .t 23], none⟩] [1, 4, 6, 7, 8, 9, 24] [4, 8, 16, 19, 83, 87, 103])
   (.cond (.t 24)
    .skip
    (.exit 0)))
  (.seq
   (.block 1
    (.seq
     (.reg [] [⟨some 27, .move, [.t 6], none⟩,
       ⟨some 28, .move, [.t 9], none⟩,
       ⟨some 29, .iaddr 3, [.t 27, .t 28], none⟩,
       ⟨some 30, .load (some 3) false, [.t 29], none⟩,
       ⟨some 31, .move, [.t 1], none⟩,
       ⟨some 32, .call [] false, [.f 123, .t 30, .t 31], none⟩,
       ⟨some 10, .move, [.t 32], none⟩] [1, 4, 6, 7, 8, 9, 10] [4, 8, 16, 19, 32, 83, 87, 103])
     (.seq
      (.reg [] [⟨some 33, .eslice 2, [], none⟩,
        ⟨some 11, .move, [.t 33], none⟩] [1, 4, 6, 7, 8, 9, 10, 11] [4, 8, 16, 19, 32, 33, 83, 87, 97, 103])
      (.seq
       (.seq
        (.reg [] [⟨some 12, .move, [.k (.i 0)], none⟩] [1, 4, 6, 7, 8, 9, 10, 11, 12] [4, 8, 16, 19, 32, 33, 83, 87, 97, 103])
        (.block 2
         (.loop [1, 4, 6, 7, 8, 9, 10, 11, 12] [4, 8, 16, 19, 32, 33, 83, 87, 97, 103] c110l1)))
       (.reg [0, 1, 2, 3, 6, 9, 10, 11] [⟨some 98, .faddr 0, [.t 8], none⟩,
         ⟨some 99, .load none false, [.t 98], none⟩,
         ⟨some 100, .move, [.t 11], none⟩,
         ⟨some 101, .call [] false, [.f 68, .t 100], none⟩,
         ⟨none, .chk (.faddr 0), [.t 98, .t 8], none⟩,
         ⟨none, .chk (.load none false), [.t 99, .t 98], none⟩,
         ⟨some 102, .bslice 1 true, [.t 101], none⟩,
         ⟨none, .chk (.faddr 0), [.t 98, .t 8], none⟩,
         ⟨none, .chk (.load none false), [.t 99, .t 98], none⟩,
         ⟨some 103, .append 1 true, [.t 99, .t 102], none⟩,
         ⟨some 104, .faddr 0, [.t 8], none⟩,
         ⟨none, .store 1 true, [.t 104, .t 103], none⟩] [1, 4, 6, 7, 8, 9] [4, 8, 16, 19, 83, 87, 103])))))
   (.reg [] [⟨some 25, .move, [.t 9], none⟩,
     ⟨some 26, .bin .add, [.t 25, .k (.i 1)], none⟩,
     ⟨some 9, .move, [.t 26], none⟩] [1, 4, 6, 7, 8, 9] [4, 8, 16, 19, 83, 87, 103])))
def c110l2 : AC := b110l2
theorem r110l2 (call lp s) : run call lp c110l2 s = run call lp b110l2 s := rfl
/-- spec.l3Graph -/
def c110 : AC :=
 (.seq
  (.reg [] [⟨some 2, .box, [.t 0], none⟩,
    ⟨some 4, .alloc [.nils], [], none⟩,
    ⟨some 5, .move, [.k (.b false)], none⟩] [1, 2, 4] [2, 4, 103])
  (.seq
   (.reg [] [⟨some 15, .load (some 3) false, [.t 2], none⟩,
     ⟨some 16, .bslice 3 true, [.t 15], none⟩,
     ⟨some 6, .move, [.t 16], none⟩] [1, 2, 4, 6] [2, 4, 16, 83, 103])
   (.seq
    (.reg [] [⟨some 17, .load (some 3) false, [.t 2], none⟩,
      ⟨some 18, .call [] false, [.f 122, .t 17], none⟩,
      ⟨some 19, .bslice 1 true, [.t 18], none⟩,
      ⟨some 7, .move, [.t 19], none⟩] [1, 4, 6, 7] [4, 16, 19, 83, 87, 103])
    (.seq
     (.reg [] [⟨some 20, .build [.nils] [], [], none⟩,
       ⟨some 8, .alloc [.nils], [], none⟩,
       ⟨none, .store 1 true, [.t 8, .t 20], none⟩] [1, 4, 6, 7, 8] [4, 8, 16, 19, 83, 87, 103])
     (.seq
      (.seq
       (.reg [] [⟨some 9, .move, [.k (.i 0)], none⟩] [1, 4, 6, 7, 8, 9] [4, 8, 16, 19, 83, 87, 103])
       (.block 0
        (.loop [1, 4, 6, 7, 8, 9] [4, 8, 16, 19, 83, 87, 103] c110l2)))
      (.seq
       (.reg [] [⟨some 105, .load (some 1) false, [.t 8], none⟩,
         ⟨none, .store 1 true, [.t 4, .t 105], none⟩,
         ⟨some 5, .move, [.k (.b true)], none⟩] [4, 5] [4, 103])
       .ret))))))
def a110 : AF := ⟨c110, [.cell 4 (some 1), .tmp 5]⟩
/-- spec.GraphOf -/
def c94 : AC :=
 (.seq
  (.reg [] [⟨some 2, .box, [.t 0], none⟩,
    ⟨some 4, .alloc [.nils], [], none⟩,
    ⟨some 5, .move, [.k (.b false)], none⟩] [1, 2, 4] [2, 4, 13])
  (.seq
   (.seq
    (.reg [] [⟨some 6, .load (some 3) false, [.t 2], none⟩,
      ⟨some 7, .move, [.t 1], none⟩,
      ⟨some 8, .call [] false, [.f 109, .t 6, .t 7], none⟩,
      ⟨some 9, .not, [.t 8], none⟩] [1, 2, 4, 9] [2, 4, 13])
    (.cond (.t 9)
     (.seq
      (.reg [] [⟨some 10, .build [.nils] [], [], none⟩,
        ⟨none, .store 1 true, [.t 4, .t 10], none⟩,
        ⟨some 5, .move, [.k (.b false)], none⟩] [4, 5] [4, 13])
      .ret)
     .skip))
   (.seq
    (.reg [] [⟨some 11, .load (some 3) false, [.t 2], none⟩,
      ⟨some 12, .move, [.t 1], none⟩,
      ⟨some 13, .call [] false, [.f 110, .t 11, .t 12], none⟩,
      ⟨some 14, .ext 0, [.t 13], none⟩,
      ⟨some 15, .ext 1, [.t 13], none⟩,
      ⟨none, .store 1 true, [.t 4, .t 14], none⟩,
      ⟨some 5, .move, [.t 15], none⟩] [4, 5] [4, 13])
    .ret)))
def a94 : AF := ⟨c94, [.cell 4 (some 1), .tmp 5]⟩
def b43l0 : AC :=
 (.seq
  (.seq
   (.reg [] [⟨some 28, .move, [.t 10], none⟩,
     ⟨some 29, .bin .gt, [.t 28, .k (.i 0)], none⟩] [0, 4, 5, 6, 7, 8, 9, 10, 29] [4, 5, 25, 45, 51])
   (.cond (.t 29)
    .skip
    (.exit 2)))
  (.seq
   (.block 3
    (.seq
     (.reg [] [⟨some 32, .move, [.t 0], none⟩,
       ⟨some 33, .call [] false, [.f 53, .t 32, .k (.i 3)], none⟩,
       ⟨some 11, .move, [.t 33], none⟩] [0, 4, 5, 6, 7, 8, 9, 10, 11] [4, 5, 25, 45, 51])
     (.seq
      (.seq
       (.reg [] [⟨some 34, .move, [.t 7], none⟩,
         ⟨some 35, .not, [.t 34], none⟩] [0, 4, 5, 6, 7, 8, 9, 10, 11, 35] [4, 5, 25, 45, 51])
       (.cond (.t 35)
        (.reg [] [⟨some 36, .move, [.t 0], none⟩,
          ⟨some 37, .call [] false, [.f 88, .t 36], none⟩,
          ⟨some 11, .move, [.t 37], none⟩] [0, 4, 5, 6, 7, 8, 9, 10, 11] [4, 5, 25, 45, 51])
        .skip))
      (.reg [] [⟨some 38, .move, [.t 9], none⟩,
        ⟨some 39, .move, [.t 11], none⟩,
        ⟨some 40, .move, [.t 0], none⟩,
        ⟨some 41, .move, [.t 6], none⟩,
        ⟨some 42, .call [] false, [.f 53, .t 40, .t 41], none⟩,
        ⟨some 43, .build [.i 0, .i 0] [(0, 1), (1, 1)], [.t 39, .t 42], none⟩,
        ⟨some 44, .bslice 2 true, [.t 43], none⟩,
        ⟨some 45, .append 2 true, [.t 38, .t 44], none⟩,
        ⟨some 9, .move, [.t 45], none⟩] [0, 4, 5, 6, 7, 8, 9, 10] [4, 5, 25, 45, 51]))))
   (.reg [] [⟨some 30, .move, [.t 10], none⟩,
     ⟨some 31, .bin .sub, [.t 30, .k (.i 1)], none⟩,
     ⟨some 10, .move, [.t 31], none⟩] [0, 4, 5, 6, 7, 8, 9, 10] [4, 5, 25, 45, 51])))
def c43l0 : AC := b43l0
theorem r43l0 (call lp s) : run call lp c43l0 s = run call lp b43l0 s := rfl
def b43l1 : AC :=
 (.seq
  (.seq
   (.reg [] [⟨some 20, .move, [.t 8], none⟩,
     ⟨some 21, .move, [.t 6], none⟩,
     ⟨some 22, .bin .lt, [.t 20, .t 21], none⟩] [0, 4, 5, 6, 7, 8, 22] [4, 5, 51])
   (.cond (.t 22)
    .skip
    (.exit 0)))
  (.seq
   (.block 1
    (.seq
     (.reg [] [⟨some 25, .eslice 2, [], none⟩,
       ⟨some 9, .move, [.t 25], none⟩] [0, 4, 5, 6, 7, 8, 9] [4, 5, 25, 45, 51])
     (.seq
      (.seq
       (.reg [] [⟨some 26, .move, [.t 0], none⟩,
         ⟨some 27, .call [] false, [.f 53, .t 26, .k (.i 4)], none⟩,
         ⟨some 10, .move, [.t 27], none⟩] [0, 4, 5, 6, 7, 8, 9, 10] [4, 5, 25, 45, 51])
       (.block 2
        (.loop [0, 4, 5, 6, 7, 8, 9, 10] [4, 5, 25, 45, 51] c43l0)))
      (.reg [0, 1, 2, 3, 6, 9, 10, 11] [⟨some 46, .faddr 0, [.t 5], none⟩,
        ⟨some 47, .load none false, [.t 46], none⟩,
        ⟨some 48, .move, [.t 9], none⟩,
        ⟨some 49, .call [] false, [.f 68, .t 48], none⟩,
        ⟨none, .chk (.faddr 0), [.t 46, .t 5], none⟩,
        ⟨none, .chk (.load none false), [.t 47, .t 46], none⟩,
        ⟨some 50, .bslice 1 true, [.t 49], none⟩,
        ⟨none, .chk (.faddr 0), [.t 46, .t 5], none⟩,
        ⟨none, .chk (.load none false), [.t 47, .t 46], none⟩,
        ⟨some 51, .append 1 true, [.t 47, .t 50], none⟩,
        ⟨some 52, .faddr 0, [.t 5], none⟩,
        ⟨none, .store 1 true, [.t 52, .t 51], none⟩] [0, 4, 5, 6, 7, 8] [4, 5, 51]))))
   (.reg [] [⟨some 23, .move, [.t 8], none⟩,
     ⟨some 24, .bin .add, [.t 23, .k (.i 1)], none⟩,
     ⟨some 8, .move, [.t 24], none⟩] [0, 4, 5, 6, 7, 8] [4, 5, 51])))
def c43l1 : AC := b43l1
theorem r43l1 (call lp s) : run call lp c43l1 s = run call lp b43l1 s := rfl
/-- spec.l91Wild -/
def c43 : AC :=
 (.seq
  (.reg [] [⟨some 4, .alloc [.nils], [], none⟩] [0, 1, 4] [4, 51])
  (.seq
   (.reg [] [⟨some 12, .build [.nils] [], [], none⟩,
     ⟨some 5, .alloc [.nils], [], none⟩,
     ⟨none, .store 1 true, [.t 5, .t 12], none⟩] [0, 1, 4, 5] [4, 5, 51])
   (.seq
    (.reg [] [⟨some 13, .move, [.t 0], none⟩,
      ⟨some 14, .move, [.t 1], none⟩,
      ⟨some 15, .call [] false, [.f 53, .t 13, .t 14], none⟩,
      ⟨some 16, .bin .add, [.k (.i 1), .t 15], none⟩,
      ⟨some 6, .move, [.t 16], none⟩] [0, 4, 5, 6] [4, 5, 51])
    (.seq
     (.reg [] [⟨some 17, .move, [.t 0], none⟩,
       ⟨some 18, .call [] false, [.f 53, .t 17, .k (.i 2)], none⟩,
       ⟨some 19, .bin .eq, [.t 18, .k (.i 0)], none⟩,
       ⟨some 7, .move, [.t 19], none⟩] [0, 4, 5, 6, 7] [4, 5, 51])
     (.seq
      (.seq
       (.reg [] [⟨some 8, .move, [.k (.i 0)], none⟩] [0, 4, 5, 6, 7, 8] [4, 5, 51])
       (.block 0
        (.loop [0, 4, 5, 6, 7, 8] [4, 5, 51] c43l1)))
      (.seq
       (.seq
        (.reg [] [⟨some 53, .move, [.t 0], none⟩,
          ⟨some 54, .call [] false, [.f 53, .t 53, .k (.i 30)], none⟩] [4, 5, 6, 54] [4, 5, 51])
        (.block 4
         (.seq
          (.reg [] [⟨some 56, .bin .eq, [.t 54, .k (.i 0)], none⟩,
            ⟨some 55, .move, [.t 56], none⟩] [4, 5, 6, 54, 55] [4, 5, 51])
          (.cond (.t 55)
           (.alt 5 7 6
            (.reg [0, 1, 2, 3, 4, 6, 5, 9, 12, 15, 16] [⟨some 57, .faddr 0, [.t 5], none⟩,
              ⟨some 58, .load none false, [.t 57], none⟩,
              ⟨some 59, .faddr 0, [.t 5], none⟩,
              ⟨some 60, .load none false, [.t 59], none⟩,
              ⟨some 61, .iaddr 1, [.t 60, .k (.i 0)], none⟩,
              ⟨some 63, .build [.i 0, .i 0] [(0, 1)], [.k (.i 9)], none⟩,
              ⟨some 62, .take, [.t 61], none⟩,
              ⟨none, .chk (.faddr 0), [.t 57, .t 5], none⟩,
              ⟨none, .chk (.load none false), [.t 58, .t 57], none⟩,
              ⟨some 64, .bslice 2 true, [.t 63], none⟩,
              ⟨none, .chk (.faddr 0), [.t 57, .t 5], none⟩,
              ⟨none, .chk (.load none false), [.t 58, .t 57], none⟩,
              ⟨some 65, .append 2 true, [.t 62, .t 64], none⟩,
              ⟨none, .chk (.faddr 0), [.t 57, .t 5], none⟩,
              ⟨none, .chk (.load none false), [.t 58, .t 57], none⟩,
              ⟨some 66, .iaddr 1, [.t 58, .k (.i 0)], none⟩,
              ⟨none, .store 1 true, [.t 66, .t 65], none⟩] [4, 5] [4, 5, 51])
            (.reg [0, 1, 2, 3, 4, 12, 5, 6, 15, 18, 19] [⟨some 57, .faddr 0, [.t 5], none⟩,
              ⟨some 58, .load none false, [.t 57], none⟩,
              ⟨some 59, .faddr 0, [.t 5], none⟩,
              ⟨some 60, .load none false, [.t 59], none⟩,
              ⟨some 61, .iaddr 1, [.t 60, .k (.i 0)], none⟩,
              ⟨some 63, .build [.i 0, .i 0] [(0, 1)], [.k (.i 9)], none⟩,
              ⟨some 64, .bslice 2 true, [.t 63], none⟩,
              ⟨none, .chk (.faddr 0), [.t 57, .t 5], none⟩,
              ⟨none, .chk (.load none false), [.t 58, .t 57], none⟩,
              ⟨none, .chk (.faddr 0), [.t 59, .t 5], none⟩,
              ⟨none, .chk (.load none false), [.t 60, .t 59], none⟩,
              ⟨none, .chk (.iaddr 1), [.t 61, .t 60, .k (.i 0)], none⟩,
              ⟨some 62, .take, [.t 61], none⟩,
              ⟨none, .chk (.faddr 0), [.t 57, .t 5], none⟩,
              ⟨none, .chk (.load none false), [.t 58, .t 57], none⟩,
              ⟨some 65, .append 2 true, [.t 62, .t 64], none⟩,
              ⟨none, .chk (.faddr 0), [.t 57, .t 5], none⟩,
              ⟨none, .chk (.load none false), [.t 58, .t 57], none⟩,
              ⟨some 66, .iaddr 1, [.t 58, .k (.i 0)], none⟩,
              ⟨none, .store 1 true, [.t 66, .t 65], none⟩] [4, 5] [4, 5, 51]))
           (.seq
            (.reg [] [⟨some 68, .bin .eq, [.t 54, .k (.i 1)], none⟩,
              ⟨some 67, .move, [.t 68], none⟩] [4, 5, 6, 54, 67] [4, 5, 51])
            (.cond (.t 67)
             (.alt 5 8 7
              (.reg [0, 1, 2, 3, 4, 7, 5, 6, 10, 13, 16, 17] [⟨some 69, .faddr 0, [.t 5], none⟩,
                ⟨some 70, .load none false, [.t 69], none⟩,
                ⟨some 71, .faddr 0, [.t 5], none⟩,
                ⟨some 72, .load none false, [.t 71], none⟩,
                ⟨some 73, .iaddr 1, [.t 72, .k (.i 0)], none⟩,
                ⟨some 75, .move, [.t 6], none⟩,
                ⟨some 76, .build [.i 0, .i 0] [(1, 1)], [.t 75], none⟩,
                ⟨some 74, .take, [.t 73], none⟩,
                ⟨none, .chk (.faddr 0), [.t 69, .t 5], none⟩,
                ⟨none, .chk (.load none false), [.t 70, .t 69], none⟩,
                ⟨some 77, .bslice 2 true, [.t 76], none⟩,
                ⟨none, .chk (.faddr 0), [.t 69, .t 5], none⟩,
                ⟨none, .chk (.load none false), [.t 70, .t 69], none⟩,
                ⟨some 78, .append 2 true, [.t 74, .t 77], none⟩,
                ⟨none, .chk (.faddr 0), [.t 69, .t 5], none⟩,
                ⟨none, .chk (.load none false), [.t 70, .t 69], none⟩,
                ⟨some 79, .iaddr 1, [.t 70, .k (.i 0)], none⟩,
                ⟨none, .store 1 true, [.t 79, .t 78], none⟩] [4, 5] [4, 5, 51])
              (.reg [0, 1, 2, 3, 4, 13, 5, 6, 7, 16, 19, 20] [⟨some 69, .faddr 0, [.t 5], none⟩,
                ⟨some 70, .load none false, [.t 69], none⟩,
                ⟨some 71, .faddr 0, [.t 5], none⟩,
                ⟨some 72, .load none false, [.t 71], none⟩,
                ⟨some 73, .iaddr 1, [.t 72, .k (.i 0)], none⟩,
                ⟨some 75, .move, [.t 6], none⟩,
                ⟨some 76, .build [.i 0, .i 0] [(1, 1)], [.t 75], none⟩,
                ⟨some 77, .bslice 2 true, [.t 76], none⟩,
                ⟨none, .chk (.faddr 0), [.t 69, .t 5], none⟩,
                ⟨none, .chk (.load none false), [.t 70, .t 69], none⟩,
                ⟨none, .chk (.faddr 0), [.t 71, .t 5], none⟩,
                ⟨none, .chk (.load none false), [.t 72, .t 71], none⟩,
                ⟨none, .chk (.iaddr 1), [.t 73, .t 72, .k (.i 0)], none⟩,
                ⟨some 74, .take, [.t 73], none⟩,
                ⟨none, .chk (.faddr 0), [.t 69, .t 5], none⟩,
                ⟨none, .chk (.load none false), [.t 70, .t 69], none⟩,
                ⟨some 78, .append 2 true, [.t 74, .t 77], none⟩,
                ⟨none, .chk (.faddr 0), [.t 69, .t 5], none⟩,
                ⟨none, .chk (.load none false), [.t 70, .t 69], none⟩,
                ⟨some 79, .iaddr 1, [.t 70, .k (.i 0)], none⟩,
                ⟨none, .store 1 true, [.t 79, .t 78], none⟩] [4, 5] [4, 5, 51]))
             (.seq
              (.reg [] [⟨some 81, .bin .eq, [.t 54, .k (.i 2)], none⟩,
                ⟨some 80, .move, [.t 81], none⟩] [4, 5, 80] [4, 5, 51])
              (.cond (.t 80)
               (.seq
                (.reg [] [⟨some 82, .build [.nils] [], [], none⟩,
                  ⟨none, .store 1 true, [.t 4, .t 82], none⟩] [4] [4, 51])
                .ret)
               .skip))))))))
       (.seq
        (.reg [] [⟨some 83, .load (some 1) false, [.t 5], none⟩,
          ⟨none, .store 1 true, [.t 4, .t 83], none⟩] [4] [4, 51])
        .ret)))))))
def a43 : AF := ⟨c43, [.cell 4 (some 1)]⟩
/-- spec.l91Graph -/
def c52 : AC :=
 (.seq
  (.reg [] [⟨some 2, .alloc [.nils], [], none⟩] [0, 2] [2, 12, 18, 24, 1012])
  (.seq
   (.seq
    (.reg [] [⟨some 7, .move, [.t 0], none⟩,
      ⟨some 8, .call [] false, [.f 53, .t 7, .k (.i 2)], none⟩,
      ⟨some 9, .bin .eq, [.t 8, .k (.i 0)], none⟩] [0, 2, 9] [2, 12, 18, 24, 1012])
    (.cond (.t 9)
     (.seq
      (.reg [] [⟨some 11, .move, [.t 0], none⟩,
        ⟨some 12, .call [] false, [.f 93, .t 11], none⟩,
        ⟨some 10, .move, [.t 12], none⟩,
        ⟨some 13, .ext 0, [.t 10], none⟩,
        ⟨some 14, .ext 1, [.t 10], none⟩,
        ⟨some 3, .alloc [.i 0, .i 0, .nils], [], none⟩,
        ⟨none, .store 3 true, [.t 3, .t 13], none⟩,
        ⟨some 4, .move, [.t 14], none⟩] [0, 2, 3, 4] [2, 3, 12, 18, 24, 1012])
      (.seq
       (.reg [] [⟨some 16, .load (some 3) false, [.t 3], none⟩,
         ⟨some 17, .move, [.t 4], none⟩,
         ⟨some 18, .call [] false, [.f 94, .t 16, .t 17], none⟩,
         ⟨some 15, .move, [.t 18], none⟩,
         ⟨some 19, .ext 0, [.t 15], none⟩,
         ⟨some 20, .ext 1, [.t 15], none⟩,
         ⟨some 5, .alloc [.nils], [], none⟩,
         ⟨none, .store 1 true, [.t 5, .t 19], none⟩,
         ⟨some 6, .move, [.t 20], none⟩] [0, 2, 5, 6] [2, 5, 12, 18, 24, 1012])
       (.seq
        (.reg [] [⟨some 21, .move, [.t 6], none⟩] [0, 2, 5, 21] [2, 5, 12, 18, 24, 1012])
        (.cond (.t 21)
         (.seq
          (.reg [] [⟨some 22, .load (some 1) false, [.t 5], none⟩,
            ⟨none, .store 1 true, [.t 2, .t 22], none⟩] [2] [2, 12, 18, 24, 1012])
          .ret)
         .skip))))
     .skip))
   (.seq
    (.reg [] [⟨some 23, .move, [.t 0], none⟩,
      ⟨some 24, .call [] false, [.f 43, .t 23, .k (.i 6)], none⟩,
      ⟨none, .store 1 true, [.t 2, .t 24], none⟩] [2] [2, 12, 18, 24, 1012])
    .ret)))
def a52 : AF := ⟨c52, [.cell 2 (some 1)]⟩
def b63l0 : AC :=
 (.seq
  (.seq
   (.reg [] [⟨some 8, .move, [.t 6], none⟩,
     ⟨some 9, .move, [.t 1], none⟩,
     ⟨some 10, .bin .lt, [.t 8, .t 9], none⟩] [0, 1, 5, 6, 10] [7, 18])
   (.cond (.t 10)
    .skip
    (.exit 0)))
  (.seq
   (.block 1
    (.reg [] [⟨some 13, .move, [.t 5], none⟩,
      ⟨some 14, .move, [.t 0], none⟩,
      ⟨some 15, .call [] false, [.f 53, .t 14, .k (.i 3)], none⟩,
      ⟨some 16, .bin .eq, [.t 15, .k (.i 0)], none⟩,
      ⟨some 17, .bslice 1 true, [.t 16], none⟩,
      ⟨some 18, .append 1 true, [.t 13, .t 17], none⟩,
      ⟨some 5, .move, [.t 18], none⟩] [0, 1, 5, 6] [7, 18]))
   (.reg [] [⟨some 11, .move, [.t 6], none⟩,
     ⟨some 12, .bin .add, [.t 11, .k (.i 1)], none⟩,
     ⟨some 6, .move, [.t 12], none⟩] [0, 1, 5, 6] [7, 18])))
def c63l0 : AC := b63l0
theorem r63l0 (call lp s) : run call lp c63l0 s = run call lp b63l0 s := rfl
/-- spec.l91Menu -/
def c63 : AC :=
 (.seq
  (.reg [] [⟨some 4, .move, [.k (.nils)], none⟩] [0, 1] [])
  (.seq
   (.reg [] [⟨some 7, .bslice 1 true, [], none⟩,
     ⟨some 5, .move, [.t 7], none⟩] [0, 1, 5] [7, 18])
   (.seq
    (.seq
     (.reg [] [⟨some 6, .move, [.k (.i 0)], none⟩] [0, 1, 5, 6] [7, 18])
     (.block 0
      (.loop [0, 1, 5, 6] [7, 18] c63l0)))
    (.seq
     (.seq
      (.reg [] [⟨some 19, .move, [.t 0], none⟩,
        ⟨some 20, .call [] false, [.f 53, .t 19, .k (.i 20)], none⟩,
        ⟨some 21, .bin .eq, [.t 20, .k (.i 0)], none⟩,
        ⟨some 22, .move, [.t 21], none⟩,
        ⟨some 23, .move, [.t 1], some (22, true)⟩,
        ⟨some 24, .bin .gt, [.t 23, .k (.i 0)], some (22, true)⟩,
        ⟨some 25, .pick, [.t 22, .t 24, .k (.b false)], none⟩] [5, 25] [7, 18])
      (.cond (.t 25)
       (.seq
        (.reg [] [⟨some 26, .move, [.t 5], none⟩,
          ⟨some 27, .fsl 1, [.t 26, .k (.i 1)], none⟩,
          ⟨some 4, .move, [.t 27], none⟩] [4] [7, 18, 27])
        .ret)
       .skip))
     (.seq
      (.reg [] [⟨some 28, .move, [.t 5], none⟩,
        ⟨some 4, .move, [.t 28], none⟩] [4] [7, 18, 27])
      .ret)))))
def a63 : AF := ⟨c63, [.tmp 4]⟩
/-- spec.DrawGraphVeil -/
def c25 : AC :=
 (.seq
  (.reg [] [⟨some 2, .alloc [.nils], [], none⟩,
    ⟨some 3, .move, [.k (.nils)], none⟩] [0, 2] [2, 8, 10])
  (.seq
   (.reg [] [⟨some 7, .move, [.t 0], none⟩,
     ⟨some 8, .call [] false, [.f 36, .t 7], none⟩,
     ⟨some 4, .move, [.t 8], none⟩] [2, 4] [2, 8, 10])
   (.seq
    (.reg [] [⟨some 9, .move, [.t 4], none⟩,
      ⟨some 10, .call [] false, [.f 52, .t 9], none⟩,
      ⟨some 5, .alloc [.nils], [], none⟩,
      ⟨none, .store 1 true, [.t 5, .t 10], none⟩] [2, 4, 5] [2, 5, 8, 10])
    (.seq
     (.reg [] [⟨some 11, .move, [.t 4], none⟩,
       ⟨some 12, .call [] false, [.f 63, .t 11, .k (.i 4)], none⟩,
       ⟨some 6, .move, [.t 12], none⟩] [2, 5, 6] [2, 5, 8, 10, 12])
     (.seq
      (.reg [] [⟨some 13, .load (some 1) false, [.t 5], none⟩,
        ⟨some 14, .move, [.t 6], none⟩,
        ⟨none, .store 1 true, [.t 2, .t 13], none⟩,
        ⟨some 3, .move, [.t 14], none⟩] [2, 3] [2, 8, 10, 12])
      .ret)))))
def a25 : AF := ⟨c25, [.cell 2 (some 1), .tmp 3]⟩
/-- impl.ActOk -/
def c74 : AC :=
 (.seq
  (.reg [] [⟨some 2, .move, [.k (.b false)], none⟩] [0] [])
  (.seq
   (.reg [] [⟨some 3, .move, [.t 0], none⟩,
     ⟨some 4, .bin .ge, [.t 3, .k (.i (-4))], none⟩,
     ⟨some 5, .move, [.t 4], none⟩,
     ⟨some 6, .move, [.t 0], some (5, true)⟩,
     ⟨some 7, .bin .le, [.t 6, .k (.i 4)], some (5, true)⟩,
     ⟨some 8, .pick, [.t 5, .t 7, .k (.b false)], none⟩,
     ⟨some 2, .move, [.t 8], none⟩] [2] [])
   .ret))
def a74 : AF := ⟨c74, [.tmp 2]⟩
/-- cmp.isNaN[int] -/
def c116 : AC :=
 (.seq
  (.reg [] [⟨some 2, .move, [.k (.b false)], none⟩] [0] [])
  (.seq
   (.reg [] [⟨some 3, .move, [.t 0], none⟩,
     ⟨some 4, .move, [.t 0], none⟩,
     ⟨some 5, .bin .ne, [.t 3, .t 4], none⟩,
     ⟨some 2, .move, [.t 5], none⟩] [2] [])
   .ret))
def a116 : AF := ⟨c116, [.tmp 2]⟩
/-- cmp.Compare[int] -/
def c103 : AC :=
 (.seq
  (.reg [] [⟨some 4, .move, [.k (.i 0)], none⟩] [0, 1] [])
  (.seq
   (.reg [] [⟨some 7, .move, [.t 0], none⟩,
     ⟨some 8, .call [] false, [.f 116, .t 7], none⟩,
     ⟨some 5, .move, [.t 8], none⟩] [0, 1, 5] [])
   (.seq
    (.reg [] [⟨some 9, .move, [.t 1], none⟩,
      ⟨some 10, .call [] false, [.f 116, .t 9], none⟩,
      ⟨some 6, .move, [.t 10], none⟩] [0, 1, 5, 6] [])
    (.seq
     (.seq
      (.reg [] [⟨some 11, .move, [.t 5], none⟩] [0, 1, 6, 11] [])
      (.cond (.t 11)
       (.seq
        (.seq
         (.reg [] [⟨some 12, .move, [.t 6], none⟩] [12] [])
         (.cond (.t 12)
          (.seq
           (.reg [] [⟨some 4, .move, [.k (.i 0)], none⟩] [4] [])
           .ret)
          .skip))
        (.seq
         (.reg [] [⟨some 4, .move, [.k (.i (-1))], none⟩] [4] [])
         .ret))
       .skip))
     (.seq
      (.seq
       (.reg [] [⟨some 13, .move, [.t 6], none⟩] [0, 1, 13] [])
       (.cond (.t 13)
        (.seq
         (.reg [] [⟨some 4, .move, [.k (.i 1)], none⟩] [4] [])
         .ret)
        .skip))
      (.seq
       (.seq
        (.reg [] [⟨some 14, .move, [.t 0], none⟩,
          ⟨some 15, .move, [.t 1], none⟩,
          ⟨some 16, .bin .lt, [.t 14, .t 15], none⟩] [0, 1, 16] [])
        (.cond (.t 16)
         (.seq
          (.reg [] [⟨some 4, .move, [.k (.i (-1))], none⟩] [4] [])
          .ret)
         .skip))
       (.seq
        (.seq
         (.reg [] [⟨some 17, .move, [.t 0], none⟩,
           ⟨some 18, .move, [.t 1], none⟩,
           ⟨some 19, .bin .gt, [.t 17, .t 18], none⟩] [19] [])
         (.cond (.t 19)
          (.seq
           (.reg [] [⟨some 4, .move, [.k (.i 1)], none⟩] [4] [])
           .ret)
          .skip))
        (.seq
         (.reg [] [⟨some 4, .move, [.k (.i 0)], none⟩] [4] [])
         .ret))))))))
def a103 : AF := ⟨c103, [.tmp 4]⟩
/-- impl.byMove -/
def c89 : AC :=
 (.seq
  (.reg [] [⟨some 2, .box, [.t 0], none⟩,
    ⟨some 3, .box, [.t 1], none⟩,
    ⟨some 4, .move, [.k (.i 0)], none⟩] [2, 3] [2, 3])
  (.seq
   (.seq
    (.reg [] [⟨some 6, .faddr 0, [.t 2], none⟩,
      ⟨some 7, .load none false, [.t 6], none⟩,
      ⟨some 8, .faddr 0, [.t 3], none⟩,
      ⟨some 9, .load none false, [.t 8], none⟩,
      ⟨some 10, .call [] false, [.f 103, .t 7, .t 9], none⟩,
      ⟨some 5, .move, [.t 10], none⟩] [2, 3, 5] [2, 3])
    (.seq
     (.reg [] [⟨some 11, .move, [.t 5], none⟩,
       ⟨some 12, .bin .ne, [.t 11, .k (.i 0)], none⟩] [2, 3, 5, 12] [2, 3])
     (.cond (.t 12)
      (.seq
       (.reg [] [⟨some 13, .move, [.t 5], none⟩,
         ⟨some 4, .move, [.t 13], none⟩] [4] [])
       .ret)
      .skip)))
   (.seq
    (.reg [] [⟨some 14, .faddr 1, [.t 2], none⟩,
      ⟨some 15, .load none false, [.t 14], none⟩,
      ⟨some 16, .faddr 1, [.t 3], none⟩,
      ⟨some 17, .load none false, [.t 16], none⟩,
      ⟨some 18, .call [] false, [.f 103, .t 15, .t 17], none⟩,
      ⟨some 4, .move, [.t 18], none⟩] [4] [])
    .ret)))
def a89 : AF := ⟨c89, [.tmp 4]⟩
def b44l0 : AC :=
 (.seq
  (.reg [] [⟨some 27, .bin .lt, [.t 26, .t 25], none⟩] [1, 4, 18, 19, 20, 24, 25, 26, 27] [1])
  (.seq
   (.cond (.t 27)
    .skip
    (.exit 2))
   (.seq
    (.block 3
     (.seq
      (.reg [] [⟨some 28, .move, [.t 26], none⟩,
        ⟨some 29, .iaddr 2, [.t 24, .t 26], none⟩,
        ⟨some 30, .load (some 2) false, [.t 29], none⟩,
        ⟨some 6, .alloc [.i 0, .i 0], [], none⟩,
        ⟨some 5, .move, [.t 28], none⟩,
        ⟨none, .store 2 true, [.t 6, .t 30], none⟩] [1, 4, 5, 6, 18, 19, 20, 24, 25, 26] [1, 6])
      (.seq
       (.reg [0, 1, 2, 3, 4, 5, 6, 7, 8, 9, 10, 11, 12, 13, 14, 15, 16, 17, 18, 19, 20, 21, 22, 23, 24, 25, 26, 27, 28, 29, 30] [⟨some 31, .faddr 0, [.t 6], none⟩,
         ⟨some 32, .load none false, [.t 31], none⟩,
         ⟨some 33, .call [] false, [.f 74, .t 32], none⟩,
         ⟨some 34, .not, [.t 33], none⟩,
         ⟨some 35, .move, [.t 34], none⟩,
         ⟨some 36, .faddr 1, [.t 6], some (35, false)⟩,
         ⟨some 37, .load none false, [.t 36], some (35, false)⟩,
         ⟨some 38, .bin .lt, [.t 37, .k (.i 0)], some (35, false)⟩,
         ⟨some 39, .pick, [.t 35, .k (.b true), .t 38], none⟩,
         ⟨some 40, .move, [.t 39], none⟩,
         ⟨some 41, .faddr 1, [.t 6], some (40, false)⟩,
         ⟨some 42, .load none false, [.t 41], some (40, false)⟩,
         ⟨some 43, .faddr 0, [.t 1], some (40, false)⟩,
         ⟨some 44, .load none false, [.t 43], some (40, false)⟩,
         ⟨some 45, .len, [.t 44], some (40, false)⟩,
         ⟨some 46, .bin .ge, [.t 42, .t 45], some (40, false)⟩,
         ⟨some 47, .pick, [.t 40, .k (.b true), .t 46], none⟩,
         ⟨some 48, .move, [.t 47], none⟩,
         ⟨some 49, .move, [.t 5], some (48, false)⟩,
         ⟨some 50, .bin .gt, [.t 49, .k (.i 0)], some (48, false)⟩,
         ⟨some 51, .move, [.t 50], some (48, false)⟩,
         ⟨some 52, .move, [.t 4], some (51, true)⟩,
         ⟨some 53, .move, [.t 5], some (51, true)⟩,
         ⟨some 54, .bin .sub, [.t 53, .k (.i 1)], some (51, true)⟩,
         ⟨some 55, .iaddr 2, [.t 52, .t 54], some (51, true)⟩,
         ⟨some 56, .load (some 2) false, [.t 55], some (51, true)⟩,
         ⟨some 57, .load (some 2) false, [.t 6], some (51, true)⟩,
         ⟨some 58, .call [] false, [.f 89, .t 56, .t 57], some (51, true)⟩,
         ⟨some 59, .bin .ge, [.t 58, .k (.i 0)], some (51, true)⟩,
         ⟨some 60, .pick, [.t 51, .t 59, .k (.b false)], some (48, false)⟩,
         ⟨some 61, .pick, [.t 48, .k (.b true), .t 60], none⟩] [1, 4, 18, 19, 20, 24, 25, 26, 61] [1])
       (.cond (.t 61)
        (.seq
         (.reg [] [⟨some 2, .move, [.k (.b false)], none⟩] [2] [])
         .ret)
        .skip))))
    (.reg [] [⟨some 62, .bin .add, [.t 26, .k (.i 1)], none⟩,
      ⟨some 26, .move, [.t 62], none⟩] [1, 4, 18, 19, 20, 24, 25, 26] [1]))))
def c44l0 : AC := b44l0
theorem r44l0 (call lp s) : run call lp c44l0 s = run call lp b44l0 s := rfl
def b44l1 : AC :=
 (.seq
  (.reg [] [⟨some 21, .bin .lt, [.t 20, .t 19], none⟩] [1, 18, 19, 20, 21] [1])
  (.seq
   (.cond (.t 21)
    .skip
    (.exit 0))
   (.seq
    (.block 1
     (.seq
      (.reg [] [⟨some 22, .iaddr 1, [.t 18, .t 20], none⟩,
        ⟨some 23, .load none false, [.t 22], none⟩,
        ⟨some 4, .move, [.t 23], none⟩] [1, 4, 18, 19, 20] [1])
      (.seq
       (.reg [] [⟨some 24, .move, [.t 4], none⟩,
         ⟨some 25, .len, [.t 24], none⟩,
         ⟨some 26, .move, [.k (.i 0)], none⟩] [1, 4, 18, 19, 20, 24, 25, 26] [1])
       (.block 2
        (.loop [1, 4, 18, 19, 20, 24, 25, 26] [1] c44l0)))))
    (.reg [] [⟨some 63, .bin .add, [.t 20, .k (.i 1)], none⟩,
      ⟨some 20, .move, [.t 63], none⟩] [1, 18, 19, 20] [1]))))
def c44l1 : AC := b44l1
theorem r44l1 (call lp s) : run call lp c44l1 s = run call lp b44l1 s := rfl
/-- impl.GraphOk -/
def c44 : AC :=
 (.seq
  (.reg [] [⟨some 1, .box, [.t 0], none⟩,
    ⟨some 2, .move, [.k (.b false)], none⟩] [1] [1])
  (.seq
   (.seq
    (.reg [] [⟨some 7, .faddr 0, [.t 1], none⟩,
      ⟨some 8, .load none false, [.t 7], none⟩,
      ⟨some 9, .len, [.t 8], none⟩,
      ⟨some 10, .bin .lt, [.t 9, .k (.i 1)], none⟩,
      ⟨some 11, .move, [.t 10], none⟩,
      ⟨some 12, .faddr 0, [.t 1], some (11, false)⟩,
      ⟨some 13, .load none false, [.t 12], some (11, false)⟩,
      ⟨some 14, .len, [.t 13], some (11, false)⟩,
      ⟨some 15, .bin .gt, [.t 14, .k (.i 60)], some (11, false)⟩,
      ⟨some 16, .pick, [.t 11, .k (.b true), .t 15], none⟩] [1, 16] [1])
    (.cond (.t 16)
     (.seq
      (.reg [] [⟨some 2, .move, [.k (.b false)], none⟩] [2] [])
      .ret)
     .skip))
   (.seq
    (.seq
     (.reg [] [⟨some 17, .faddr 0, [.t 1], none⟩,
       ⟨some 18, .load none false, [.t 17], none⟩,
       ⟨some 19, .len, [.t 18], none⟩,
       ⟨some 20, .move, [.k (.i 0)], none⟩] [1, 18, 19, 20] [1])
     (.block 0
      (.loop [1, 18, 19, 20] [1] c44l1)))
    (.seq
     (.reg [] [⟨some 2, .move, [.k (.b true)], none⟩] [2] [])
     .ret))))
def a44 : AF := ⟨c44, [.tmp 2]⟩
/-- impl.namesOk -/
def c64 : AC :=
 (.seq
  (.reg [] [⟨some 2, .move, [.k (.b false)], none⟩] [0] [])
  (.seq
   (.reg [] [⟨some 3, .move, [.t 0], none⟩,
     ⟨some 4, .len, [.t 3], none⟩,
     ⟨some 5, .bin .eq, [.t 4, .k (.i 4)], none⟩,
     ⟨some 2, .move, [.t 5], none⟩] [2] [])
   .ret))
def a64 : AF := ⟨c64, [.tmp 2]⟩
/-- impl.Move] -/
def c56 : AC :=
 (.seq
  (.reg [] [⟨some 2, .move, [.k (.nils)], none⟩] [0] [])
  (.seq
   (.seq
    (.reg [] [⟨some 3, .move, [.t 0], none⟩,
      ⟨some 4, .isnil, [.t 3, .k (.nils)], none⟩] [0, 4] [])
    (.cond (.t 4)
     (.seq
      (.reg [] [⟨some 2, .move, [.k (.nils)], none⟩] [2] [5, 7])
      .ret)
     .skip))
   (.seq
    (.reg [] [⟨some 5, .bslice 2 true, [], none⟩,
      ⟨some 6, .move, [.t 0], none⟩,
      ⟨some 7, .append 2 true, [.t 5, .t 6], none⟩,
      ⟨some 2, .move, [.t 7], none⟩] [2] [5, 7])
    .ret)))
def a56 : AF := ⟨c56, [.tmp 2]⟩
/-- impl.nameOf -/
def c58 : AC :=
 (.seq
  (.reg [] [⟨some 2, .move, [.k (.i 0)], none⟩] [0] [])
  (.seq
   (.reg [] [⟨some 3, .move, [.t 0], none⟩,
     ⟨some 4, .move, [.t 0], none⟩,
     ⟨some 5, .neg, [.t 4], none⟩,
     ⟨some 6, .max2, [.t 3, .t 5], none⟩,
     ⟨some 7, .bin .sub, [.t 6, .k (.i 1)], none⟩,
     ⟨some 2, .move, [.t 7], none⟩] [2] [])
   .ret))
def a58 : AF := ⟨c58, [.tmp 2]⟩
/-- impl.atNames -/
def c65 : AC :=
 (.seq
  (.reg [] [⟨some 4, .move, [.k (.b false)], none⟩] [0, 1] [])
  (.seq
   (.reg [] [⟨some 5, .move, [.t 0], none⟩,
     ⟨some 6, .bin .ne, [.t 5, .k (.i 0)], none⟩,
     ⟨some 7, .move, [.t 6], none⟩,
     ⟨some 8, .move, [.t 1], some (7, true)⟩,
     ⟨some 9, .move, [.t 0], some (7, true)⟩,
     ⟨some 10, .call [] false, [.f 58, .t 9], some (7, true)⟩,
     ⟨some 11, .iaddr 1, [.t 8, .t 10], some (7, true)⟩,
     ⟨some 12, .load none false, [.t 11], some (7, true)⟩,
     ⟨some 13, .pick, [.t 7, .t 12, .k (.b false)], none⟩,
     ⟨some 4, .move, [.t 13], none⟩] [4] [])
   .ret))
def a65 : AF := ⟨c65, [.tmp 4]⟩
def b97l0 : AC :=
 (.seq
  (.seq
   (.reg [] [⟨some 29, .move, [.t 5], none⟩,
     ⟨some 30, .move, [.t 4], none⟩,
     ⟨some 31, .len, [.t 30], none⟩,
     ⟨some 32, .bin .lt, [.t 29, .t 31], none⟩] [0, 3, 4, 5, 32] [28])
   (.cond (.t 32)
    .skip
    (.exit 2)))
  (.seq
   (.block 3
    (.seq
     (.reg [0, 1, 2, 3, 4, 5, 6, 7, 8, 9] [⟨some 35, .move, [.t 4], none⟩,
       ⟨some 36, .move, [.t 5], none⟩,
       ⟨some 37, .iaddr 2, [.t 35, .t 36], none⟩,
       ⟨some 38, .load (some 2) false, [.t 37], none⟩,
       ⟨some 39, .move, [.t 4], none⟩,
       ⟨some 40, .move, [.t 5], none⟩,
       ⟨some 41, .bin .sub, [.t 40, .k (.i 1)], none⟩,
       ⟨some 42, .iaddr 2, [.t 39, .t 41], none⟩,
       ⟨some 43, .load (some 2) false, [.t 42], none⟩,
       ⟨some 44, .meq true, [.t 38, .t 43], none⟩] [0, 3, 4, 5, 44] [28])
     (.cond (.t 44)
      (.seq
       (.reg [] [⟨some 45, .move, [.t 0], none⟩,
         ⟨some 46, .move, [.t 3], none⟩,
         ⟨some 47, .move, [.t 4], none⟩,
         ⟨some 48, .move, [.t 5], none⟩,
         ⟨some 49, .iaddr 2, [.t 47, .t 48], none⟩,
         ⟨some 50, .load (some 2) false, [.t 49], none⟩,
         ⟨some 51, .iaddr 2, [.t 45, .t 46], none⟩,
         ⟨none, .store 2 true, [.t 51, .t 50], none⟩] [0, 3, 4, 5] [28])
       (.reg [] [⟨some 52, .move, [.t 3], none⟩,
         ⟨some 53, .bin .add, [.t 52, .k (.i 1)], none⟩,
         ⟨some 3, .move, [.t 53], none⟩] [0, 3, 4, 5] [28]))
      .skip)))
   (.reg [] [⟨some 33, .move, [.t 5], none⟩,
     ⟨some 34, .bin .add, [.t 33, .k (.i 1)], none⟩,
     ⟨some 5, .move, [.t 34], none⟩] [0, 3, 4, 5] [28])))
def c97l0 : AC := b97l0
theorem r97l0 (call lp s) : run call lp c97l0 s = run call lp b97l0 s := rfl
def b97l1 : AC :=
 (.seq
  (.seq
   (.reg [] [⟨some 10, .move, [.t 3], none⟩,
     ⟨some 11, .move, [.t 0], none⟩,
     ⟨some 12, .len, [.t 11], none⟩,
     ⟨some 13, .bin .lt, [.t 10, .t 12], none⟩] [0, 3, 13] [])
   (.cond (.t 13)
    .skip
    (.exit 0)))
  (.seq
   (.block 1
    (.seq
     (.reg [0, 1, 2, 3, 4, 5, 6, 7, 8, 9] [⟨some 16, .move, [.t 0], none⟩,
       ⟨some 17, .move, [.t 3], none⟩,
       ⟨some 18, .iaddr 2, [.t 16, .t 17], none⟩,
       ⟨some 19, .load (some 2) false, [.t 18], none⟩,
       ⟨some 20, .move, [.t 0], none⟩,
       ⟨some 21, .move, [.t 3], none⟩,
       ⟨some 22, .bin .sub, [.t 21, .k (.i 1)], none⟩,
       ⟨some 23, .iaddr 2, [.t 20, .t 22], none⟩,
       ⟨some 24, .load (some 2) false, [.t 23], none⟩,
       ⟨some 25, .meq false, [.t 19, .t 24], none⟩] [0, 3, 25] [])
     (.cond (.t 25)
      (.seq
       (.reg [] [⟨some 26, .move, [.t 0], none⟩,
         ⟨some 27, .move, [.t 3], none⟩,
         ⟨some 28, .slice 2 true false, [.t 26, .t 27], none⟩,
         ⟨some 4, .move, [.t 28], none⟩] [0, 3, 4] [28])
       (.seq
        (.seq
         (.reg [] [⟨some 5, .move, [.k (.i 1)], none⟩] [0, 3, 4, 5] [28])
         (.block 2
          (.loop [0, 3, 4, 5] [28] c97l0)))
        (.seq
         (.reg [] [⟨some 54, .move, [.t 0], none⟩,
           ⟨some 55, .move, [.t 3], none⟩,
           ⟨some 56, .slice 2 true false, [.t 54, .t 55], none⟩,
           ⟨none, .clear 2 (.agg [.i 0, .i 0]), [.t 56], none⟩] [0, 3] [])
         (.seq
          (.reg [] [⟨some 57, .move, [.t 0], none⟩,
            ⟨some 58, .move, [.t 3], none⟩,
            ⟨some 59, .slice 2 false true, [.t 57, .t 58], none⟩,
            ⟨some 2, .move, [.t 59], none⟩] [2] [59])
          .ret))))
      .skip)))
   (.reg [] [⟨some 14, .move, [.t 3], none⟩,
     ⟨some 15, .bin .add, [.t 14, .k (.i 1)], none⟩,
     ⟨some 3, .move, [.t 15], none⟩] [0, 3] [])))
def c97l1 : AC := b97l1
theorem r97l1 (call lp s) : run call lp c97l1 s = run call lp b97l1 s := rfl
/-- impl.Move] -/
def c97 : AC :=
 (.seq
  (.reg [] [⟨some 2, .move, [.k (.nils)], none⟩] [0] [])
  (.seq
   (.seq
    (.reg [] [⟨some 6, .move, [.t 0], none⟩,
      ⟨some 7, .len, [.t 6], none⟩,
      ⟨some 8, .bin .lt, [.t 7, .k (.i 2)], none⟩] [0, 8] [])
    (.cond (.t 8)
     (.seq
      (.reg [] [⟨some 9, .move, [.t 0], none⟩,
        ⟨some 2, .move, [.t 9], none⟩] [2] [59])
      .ret)
     .skip))
   (.seq
    (.seq
     (.reg [] [⟨some 3, .move, [.k (.i 1)], none⟩] [0, 3] [])
     (.block 0
      (.loop [0, 3] [] c97l1)))
    (.seq
     (.reg [] [⟨some 60, .move, [.t 0], none⟩,
       ⟨some 2, .move, [.t 60], none⟩] [2] [59])
     .ret))))
def a97 : AF := ⟨c97, [.tmp 2]⟩
/-- impl.tidy -/
def c66 : AC :=
 (.seq
  (.reg [] [⟨some 2, .move, [.k (.nils)], none⟩] [0] [])
  (.seq
   (.reg [] [⟨some 3, .move, [.t 0], none⟩,
     ⟨some 4, .call [0] false, [.f 96, .t 3, .f 89], none⟩] [0] [])
   (.seq
    (.reg [] [⟨some 5, .move, [.t 0], none⟩,
      ⟨some 6, .call [0] false, [.f 97, .t 5], none⟩,
      ⟨some 2, .move, [.t 6], none⟩] [2] [6])
    .ret)))
def a66 : AF := ⟨c66, [.tmp 2]⟩
def b69l0 : AC :=
 (.seq
  (.reg [] [⟨some 31, .bin .lt, [.t 30, .t 29], none⟩] [2, 5, 6, 7, 28, 29, 30, 31] [2, 11, 12, 46])
  (.seq
   (.cond (.t 31)
    .skip
    (.exit 2))
   (.seq
    (.block 3
     (.seq
      (.reg [] [⟨some 32, .iaddr 2, [.t 28, .t 30], none⟩,
        ⟨some 33, .load (some 2) false, [.t 32], none⟩,
        ⟨some 9, .alloc [.i 0, .i 0], [], none⟩,
        ⟨none, .store 2 true, [.t 9, .t 33], none⟩] [2, 5, 6, 7, 9, 28, 29, 30] [2, 9, 11, 12, 46])
      (.seq
       (.reg [] [⟨some 34, .move, [.t 6], none⟩,
         ⟨some 35, .faddr 1, [.t 9], none⟩,
         ⟨some 36, .load none false, [.t 35], none⟩,
         ⟨some 37, .lookup false (.b false) false, [.t 34, .t 36], none⟩,
         ⟨some 38, .not, [.t 37], none⟩] [2, 5, 6, 7, 9, 28, 29, 30, 38] [2, 9, 11, 12, 46])
       (.cond (.t 38)
        (.seq
         (.reg [] [⟨some 39, .move, [.t 6], none⟩,
           ⟨some 40, .faddr 1, [.t 9], none⟩,
           ⟨some 41, .load none false, [.t 40], none⟩,
           ⟨none, .mapset false, [.t 39, .t 41, .k (.b true)], none⟩] [2, 5, 6, 7, 9, 28, 29, 30] [2, 9, 11, 12, 46])
         (.reg [] [⟨some 42, .move, [.t 5], none⟩,
           ⟨some 43, .faddr 1, [.t 9], none⟩,
           ⟨some 44, .load none false, [.t 43], none⟩,
           ⟨some 45, .bslice 1 true, [.t 44], none⟩,
           ⟨some 46, .append 1 true, [.t 42, .t 45], none⟩,
           ⟨some 5, .move, [.t 46], none⟩] [2, 5, 6, 7, 28, 29, 30] [2, 11, 12, 46]))
        .skip))))
    (.reg [] [⟨some 47, .bin .add, [.t 30, .k (.i 1)], none⟩,
      ⟨some 30, .move, [.t 47], none⟩] [2, 5, 6, 7, 28, 29, 30] [2, 11, 12, 46]))))
def c69l0 : AC := b69l0
theorem r69l0 (call lp s) : run call lp c69l0 s = run call lp b69l0 s := rfl
def b69l1 : AC :=
 (.seq
  (.seq
   (.reg [] [⟨some 15, .move, [.t 7], none⟩,
     ⟨some 16, .move, [.t 5], none⟩,
     ⟨some 17, .len, [.t 16], none⟩,
     ⟨some 18, .bin .lt, [.t 15, .t 17], none⟩] [2, 5, 6, 7, 18] [2, 11, 12, 46])
   (.cond (.t 18)
    .skip
    (.exit 0)))
  (.seq
   (.block 1
    (.seq
     (.reg [0, 1, 2, 3, 4, 5, 6, 7, 8, 9] [⟨some 21, .faddr 0, [.t 2], none⟩,
       ⟨some 22, .load none false, [.t 21], none⟩,
       ⟨some 23, .move, [.t 5], none⟩,
       ⟨some 24, .move, [.t 7], none⟩,
       ⟨some 25, .iaddr 1, [.t 23, .t 24], none⟩,
       ⟨some 26, .load none false, [.t 25], none⟩,
       ⟨some 27, .iaddr 1, [.t 22, .t 26], none⟩,
       ⟨some 28, .load none false, [.t 27], none⟩,
       ⟨some 29, .len, [.t 28], none⟩,
       ⟨some 30, .move, [.k (.i 0)], none⟩] [2, 5, 6, 7, 28, 29, 30] [2, 11, 12, 46])
     (.block 2
      (.loop [2, 5, 6, 7, 28, 29, 30] [2, 11, 12, 46] c69l0))))
   (.reg [] [⟨some 19, .move, [.t 7], none⟩,
     ⟨some 20, .bin .add, [.t 19, .k (.i 1)], none⟩,
     ⟨some 7, .move, [.t 20], none⟩] [2, 5, 6, 7] [2, 11, 12, 46])))
def c69l1 : AC := b69l1
theorem r69l1 (call lp s) : run call lp c69l1 s = run call lp b69l1 s := rfl
/-- impl.reached -/
def c69 : AC :=
 (.seq
  (.reg [] [⟨some 2, .box, [.t 0], none⟩,
    ⟨some 4, .move, [.k (.nils)], none⟩] [1, 2] [2])
  (.seq
   (.reg [] [⟨some 10, .move, [.t 1], none⟩,
     ⟨some 11, .bslice 1 true, [.t 10], none⟩,
     ⟨some 12, .mkmap false, [], none⟩,
     ⟨some 13, .move, [.t 1], none⟩,
     ⟨none, .mapset false, [.t 12, .t 13, .k (.b true)], none⟩,
     ⟨some 14, .move, [.t 12], none⟩,
     ⟨some 5, .move, [.t 11], none⟩,
     ⟨some 6, .move, [.t 14], none⟩] [2, 5, 6] [2, 11, 12, 46])
   (.seq
    (.seq
     (.reg [] [⟨some 7, .move, [.k (.i 0)], none⟩] [2, 5, 6, 7] [2, 11, 12, 46])
     (.block 0
      (.loop [2, 5, 6, 7] [2, 11, 12, 46] c69l1)))
    (.seq
     (.reg [] [⟨some 48, .move, [.t 5], none⟩,
       ⟨some 4, .move, [.t 48], none⟩] [4] [11, 46])
     .ret))))
def a69 : AF := ⟨c69, [.tmp 4]⟩
def b59l0 : AC :=
 (.seq
  (.reg [] [⟨some 28, .bin .lt, [.t 27, .t 26], none⟩] [0, 4, 6, 7, 25, 26, 27, 28] [4, 19, 24, 69])
  (.seq
   (.cond (.t 28)
    .skip
    (.exit 0))
   (.seq
    (.block 1
     (.seq
      (.reg [] [⟨some 29, .move, [.t 27], none⟩,
        ⟨some 30, .iaddr 1, [.t 25, .t 27], none⟩,
        ⟨some 31, .load none false, [.t 30], none⟩,
        ⟨some 8, .move, [.t 29], none⟩,
        ⟨some 9, .move, [.t 31], none⟩] [0, 4, 6, 7, 8, 9, 25, 26, 27] [4, 19, 24, 69])
      (.reg [] [⟨some 32, .move, [.t 7], none⟩,
        ⟨some 33, .move, [.t 9], none⟩,
        ⟨some 34, .move, [.t 8], none⟩,
        ⟨none, .mapset false, [.t 32, .t 33, .t 34], none⟩] [0, 4, 6, 7, 25, 26, 27] [4, 19, 24, 69])))
    (.reg [] [⟨some 35, .bin .add, [.t 27, .k (.i 1)], none⟩,
      ⟨some 27, .move, [.t 35], none⟩] [0, 4, 6, 7, 25, 26, 27] [4, 19, 24, 69]))))
def c59l0 : AC := b59l0
theorem r59l0 (call lp s) : run call lp c59l0 s = run call lp b59l0 s := rfl
def b59l1 : AC :=
 (.seq
  (.reg [] [⟨some 50, .bin .lt, [.t 49, .t 48], none⟩] [0, 4, 7, 10, 13, 37, 38, 39, 47, 48, 49, 50] [4, 10, 19, 24, 43, 62, 69])
  (.seq
   (.cond (.t 50)
    .skip
    (.exit 4))
   (.seq
    (.block 5
     (.seq
      (.reg [] [⟨some 51, .iaddr 2, [.t 47, .t 49], none⟩,
        ⟨some 52, .load (some 2) false, [.t 51], none⟩,
        ⟨some 15, .alloc [.i 0, .i 0], [], none⟩,
        ⟨none, .store 2 true, [.t 15, .t 52], none⟩] [0, 4, 7, 10, 13, 15, 37, 38, 39, 47, 48, 49] [4, 10, 15, 19, 24, 43, 62, 69])
      (.reg [] [⟨some 53, .move, [.t 13], none⟩,
        ⟨some 54, .faddr 0, [.t 15], none⟩,
        ⟨some 55, .load none false, [.t 54], none⟩,
        ⟨some 56, .move, [.t 7], none⟩,
        ⟨some 57, .faddr 1, [.t 15], none⟩,
        ⟨some 58, .load none false, [.t 57], none⟩,
        ⟨some 59, .lookup false (.i 0) false, [.t 56, .t 58], none⟩,
        ⟨some 60, .build [.i 0, .i 0] [(0, 1), (1, 1)], [.t 55, .t 59], none⟩,
        ⟨some 61, .bslice 2 true, [.t 60], none⟩,
        ⟨some 62, .append 2 true, [.t 53, .t 61], none⟩,
        ⟨some 13, .move, [.t 62], none⟩] [0, 4, 7, 10, 13, 37, 38, 39, 47, 48, 49] [4, 10, 19, 24, 43, 62, 69])))
    (.reg [] [⟨some 63, .bin .add, [.t 49, .k (.i 1)], none⟩,
      ⟨some 49, .move, [.t 63], none⟩] [0, 4, 7, 10, 13, 37, 38, 39, 47, 48, 49] [4, 10, 19, 24, 43, 62, 69]))))
def c59l1 : AC := b59l1
theorem r59l1 (call lp s) : run call lp c59l1 s = run call lp b59l1 s := rfl
def b59l2 : AC :=
 (.seq
  (.reg [] [⟨some 40, .bin .lt, [.t 39, .t 38], none⟩] [0, 4, 7, 10, 37, 38, 39, 40] [4, 10, 19, 24, 69])
  (.seq
   (.cond (.t 40)
    .skip
    (.exit 2))
   (.seq
    (.block 3
     (.seq
      (.reg [] [⟨some 41, .iaddr 1, [.t 37, .t 39], none⟩,
        ⟨some 42, .load none false, [.t 41], none⟩,
        ⟨some 12, .move, [.t 42], none⟩] [0, 4, 7, 10, 12, 37, 38, 39] [4, 10, 19, 24, 69])
      (.seq
       (.reg [] [⟨some 43, .bslice 2 true, [], none⟩,
         ⟨some 13, .move, [.t 43], none⟩] [0, 4, 7, 10, 12, 13, 37, 38, 39] [4, 10, 19, 24, 43, 62, 69])
       (.seq
        (.seq
         (.reg [] [⟨some 44, .move, [.t 0], none⟩,
           ⟨some 45, .move, [.t 12], none⟩,
           ⟨some 46, .iaddr 1, [.t 44, .t 45], none⟩,
           ⟨some 47, .load none false, [.t 46], none⟩,
           ⟨some 48, .len, [.t 47], none⟩,
           ⟨some 49, .move, [.k (.i 0)], none⟩] [0, 4, 7, 10, 13, 37, 38, 39, 47, 48, 49] [4, 10, 19, 24, 43, 62, 69])
         (.block 4
          (.loop [0, 4, 7, 10, 13, 37, 38, 39, 47, 48, 49] [4, 10, 19, 24, 43, 62, 69] c59l1)))
        (.reg [0, 1, 2, 3, 6, 9, 10, 11] [⟨some 64, .faddr 0, [.t 10], none⟩,
          ⟨some 65, .load none false, [.t 64], none⟩,
          ⟨some 66, .move, [.t 13], none⟩,
          ⟨some 67, .call [0] false, [.f 66, .t 66], none⟩,
          ⟨none, .chk (.faddr 0), [.t 64, .t 10], none⟩,
          ⟨none, .chk (.load none false), [.t 65, .t 64], none⟩,
          ⟨some 68, .bslice 1 true, [.t 67], none⟩,
          ⟨none, .chk (.faddr 0), [.t 64, .t 10], none⟩,
          ⟨none, .chk (.load none false), [.t 65, .t 64], none⟩,
          ⟨some 69, .append 1 true, [.t 65, .t 68], none⟩,
          ⟨some 70, .faddr 0, [.t 10], none⟩,
          ⟨none, .store 1 true, [.t 70, .t 69], none⟩] [0, 4, 7, 10, 37, 38, 39] [4, 10, 19, 24, 69])))))
    (.reg [] [⟨some 71, .bin .add, [.t 39, .k (.i 1)], none⟩,
      ⟨some 39, .move, [.t 71], none⟩] [0, 4, 7, 10, 37, 38, 39] [4, 10, 19, 24, 69]))))
def c59l2 : AC := b59l2
theorem r59l2 (call lp s) : run call lp c59l2 s = run call lp b59l2 s := rfl
/-- impl.partOf -/
def c59 : AC :=
 (.seq
  (.reg [] [⟨some 4, .alloc [.nils], [], none⟩,
    ⟨some 5, .move, [.k (.b false)], none⟩] [0, 1, 4] [4, 69])
  (.seq
   (.reg [] [⟨some 16, .move, [.t 0], none⟩,
     ⟨some 17, .build [.nils] [(0, 1)], [.t 16], none⟩,
     ⟨some 18, .move, [.t 1], none⟩,
     ⟨some 19, .call [] false, [.f 69, .t 17, .t 18], none⟩,
     ⟨some 6, .move, [.t 19], none⟩] [0, 4, 6] [4, 19, 69])
   (.seq
    (.seq
     (.reg [] [⟨some 20, .move, [.t 6], none⟩,
       ⟨some 21, .len, [.t 20], none⟩,
       ⟨some 22, .bin .gt, [.t 21, .k (.i 60)], none⟩] [0, 4, 6, 22] [4, 19, 69])
     (.cond (.t 22)
      (.seq
       (.reg [] [⟨some 23, .build [.nils] [], [], none⟩,
         ⟨none, .store 1 true, [.t 4, .t 23], none⟩,
         ⟨some 5, .move, [.k (.b false)], none⟩] [4, 5] [4, 69])
       .ret)
      .skip))
    (.seq
     (.reg [] [⟨some 24, .mkmap false, [], none⟩,
       ⟨some 7, .move, [.t 24], none⟩] [0, 4, 6, 7] [4, 19, 24, 69])
     (.seq
      (.seq
       (.reg [] [⟨some 25, .move, [.t 6], none⟩,
         ⟨some 26, .len, [.t 25], none⟩,
         ⟨some 27, .move, [.k (.i 0)], none⟩] [0, 4, 6, 7, 25, 26, 27] [4, 19, 24, 69])
       (.block 0
        (.loop [0, 4, 6, 7, 25, 26, 27] [4, 19, 24, 69] c59l0)))
      (.seq
       (.reg [] [⟨some 36, .build [.nils] [], [], none⟩,
         ⟨some 10, .alloc [.nils], [], none⟩,
         ⟨none, .store 1 true, [.t 10, .t 36], none⟩] [0, 4, 6, 7, 10] [4, 10, 19, 24, 69])
       (.seq
        (.seq
         (.reg [] [⟨some 37, .move, [.t 6], none⟩,
           ⟨some 38, .len, [.t 37], none⟩,
           ⟨some 39, .move, [.k (.i 0)], none⟩] [0, 4, 7, 10, 37, 38, 39] [4, 10, 19, 24, 69])
         (.block 2
          (.loop [0, 4, 7, 10, 37, 38, 39] [4, 10, 19, 24, 69] c59l2)))
        (.seq
         (.reg [] [⟨some 72, .load (some 1) false, [.t 10], none⟩,
           ⟨none, .store 1 true, [.t 4, .t 72], none⟩,
           ⟨some 5, .move, [.k (.b true)], none⟩] [4, 5] [4, 69])
         .ret))))))))
def a59 : AF := ⟨c59, [.cell 4 (some 1), .tmp 5]⟩
def b26l0 : AC :=
 (.seq
  (.reg [] [⟨some 34, .bin .lt, [.t 33, .t 32], none⟩] [1, 4, 6, 9, 23, 24, 25, 31, 32, 33, 34] [4, 21, 30, 51, 54])
  (.seq
   (.cond (.t 34)
    .skip
    (.exit 2))
   (.seq
    (.block 3
     (.seq
      (.reg [] [⟨some 35, .move, [.t 33], none⟩,
        ⟨some 36, .iaddr 2, [.t 31, .t 33], none⟩,
        ⟨some 37, .load (some 2) false, [.t 36], none⟩,
        ⟨some 11, .alloc [.i 0, .i 0], [], none⟩,
        ⟨some 10, .move, [.t 35], none⟩,
        ⟨none, .store 2 true, [.t 11, .t 37], none⟩] [1, 4, 6, 9, 10, 11, 23, 24, 25, 31, 32, 33] [4, 11, 21, 30, 51, 54])
      (.seq
       (.reg [] [⟨some 38, .faddr 0, [.t 11], none⟩,
         ⟨some 39, .load none false, [.t 38], none⟩,
         ⟨some 40, .move, [.t 1], none⟩,
         ⟨some 41, .call [] false, [.f 65, .t 39, .t 40], none⟩] [1, 4, 6, 9, 10, 23, 24, 25, 31, 32, 33, 41] [4, 21, 30, 51, 54])
       (.cond (.t 41)
        (.reg [] [⟨some 42, .move, [.t 9], none⟩,
          ⟨some 43, .move, [.t 10], none⟩,
          ⟨some 44, .iaddr 2, [.t 42, .t 43], none⟩,
          ⟨some 45, .faddr 0, [.t 44], none⟩,
          ⟨none, .store 1 true, [.t 45, .k (.i 0)], none⟩] [1, 4, 6, 9, 23, 24, 25, 31, 32, 33] [4, 21, 30, 51, 54])
        .skip))))
    (.reg [] [⟨some 46, .bin .add, [.t 33, .k (.i 1)], none⟩,
      ⟨some 33, .move, [.t 46], none⟩] [1, 4, 6, 9, 23, 24, 25, 31, 32, 33] [4, 21, 30, 51, 54]))))
def c26l0 : AC := b26l0
theorem r26l0 (call lp s) : run call lp c26l0 s = run call lp b26l0 s := rfl
def b26l1 : AC :=
 (.seq
  (.reg [] [⟨some 26, .bin .lt, [.t 25, .t 24], none⟩] [1, 4, 6, 23, 24, 25, 26] [4, 21, 51, 54])
  (.seq
   (.cond (.t 26)
    .skip
    (.exit 0))
   (.seq
    (.block 1
     (.seq
      (.reg [] [⟨some 27, .iaddr 1, [.t 23, .t 25], none⟩,
        ⟨some 28, .load none false, [.t 27], none⟩,
        ⟨some 8, .move, [.t 28], none⟩] [1, 4, 6, 8, 23, 24, 25] [4, 21, 51, 54])
      (.seq
       (.reg [] [⟨some 29, .move, [.t 8], none⟩,
         ⟨some 30, .call [] false, [.f 56, .t 29], none⟩,
         ⟨some 9, .move, [.t 30], none⟩] [1, 4, 6, 9, 23, 24, 25] [4, 21, 30, 51, 54])
       (.seq
        (.seq
         (.reg [] [⟨some 31, .move, [.t 9], none⟩,
           ⟨some 32, .len, [.t 31], none⟩,
           ⟨some 33, .move, [.k (.i 0)], none⟩] [1, 4, 6, 9, 23, 24, 25, 31, 32, 33] [4, 21, 30, 51, 54])
         (.block 2
          (.loop [1, 4, 6, 9, 23, 24, 25, 31, 32, 33] [4, 21, 30, 51, 54] c26l0)))
        (.reg [] [⟨some 47, .move, [.t 6], none⟩,
          ⟨some 48, .move, [.t 9], none⟩,
          ⟨some 49, .call [0] false, [.f 66, .t 48], none⟩,
          ⟨some 50, .bslice 1 true, [.t 49], none⟩,
          ⟨some 51, .append 1 true, [.t 47, .t 50], none⟩,
          ⟨some 6, .move, [.t 51], none⟩] [1, 4, 6, 23, 24, 25] [4, 21, 51, 54])))))
    (.reg [] [⟨some 52, .bin .add, [.t 25, .k (.i 1)], none⟩,
      ⟨some 25, .move, [.t 52], none⟩] [1, 4, 6, 23, 24, 25] [4, 21, 51, 54]))))
def c26l1 : AC := b26l1
theorem r26l1 (call lp s) : run call lp c26l1 s = run call lp b26l1 s := rfl
/-- impl.GraphVeil -/
def c26 : AC :=
 (.seq
  (.reg [] [⟨some 2, .box, [.t 0], none⟩,
    ⟨some 4, .alloc [.nils], [], none⟩,
    ⟨some 5, .move, [.k (.b false)], none⟩] [1, 2, 4] [2, 4, 21, 51, 54])
  (.seq
   (.seq
    (.reg [] [⟨some 12, .load (some 1) false, [.t 2], none⟩,
      ⟨some 13, .call [] false, [.f 44, .t 12], none⟩,
      ⟨some 14, .not, [.t 13], none⟩,
      ⟨some 15, .move, [.t 14], none⟩,
      ⟨some 16, .move, [.t 1], some (15, false)⟩,
      ⟨some 17, .call [] false, [.f 64, .t 16], some (15, false)⟩,
      ⟨some 18, .not, [.t 17], some (15, false)⟩,
      ⟨some 19, .pick, [.t 15, .k (.b true), .t 18], none⟩] [1, 2, 4, 19] [2, 4, 21, 51, 54])
    (.cond (.t 19)
     (.seq
      (.reg [] [⟨some 20, .build [.nils] [], [], none⟩,
        ⟨none, .store 1 true, [.t 4, .t 20], none⟩,
        ⟨some 5, .move, [.k (.b false)], none⟩] [4, 5] [4, 21, 51, 54])
      .ret)
     .skip))
   (.seq
    (.reg [] [⟨some 21, .bslice 1 true, [], none⟩,
      ⟨some 6, .move, [.t 21], none⟩] [1, 2, 4, 6] [2, 4, 21, 51, 54])
    (.seq
     (.seq
      (.reg [] [⟨some 22, .faddr 0, [.t 2], none⟩,
        ⟨some 23, .load none false, [.t 22], none⟩,
        ⟨some 24, .len, [.t 23], none⟩,
        ⟨some 25, .move, [.k (.i 0)], none⟩] [1, 4, 6, 23, 24, 25] [4, 21, 51, 54])
      (.block 0
       (.loop [1, 4, 6, 23, 24, 25] [4, 21, 51, 54] c26l1)))
     (.seq
      (.reg [] [⟨some 53, .move, [.t 6], none⟩,
        ⟨some 54, .call [] false, [.f 59, .t 53, .k (.i 0)], none⟩,
        ⟨some 55, .ext 0, [.t 54], none⟩,
        ⟨some 56, .ext 1, [.t 54], none⟩,
        ⟨none, .store 1 true, [.t 4, .t 55], none⟩,
        ⟨some 5, .move, [.t 56], none⟩] [4, 5] [4, 21, 51, 54])
      .ret)))))
def a26 : AF := ⟨c26, [.cell 4 (some 1), .tmp 5]⟩
def b47l0 : AC :=
 (.seq
  (.seq
   (.reg [] [⟨some 18, .move, [.t 4], none⟩,
     ⟨some 19, .faddr 0, [.t 1], none⟩,
     ⟨some 20, .load none false, [.t 19], none⟩,
     ⟨some 21, .move, [.t 3], none⟩,
     ⟨some 22, .iaddr 1, [.t 20, .t 21], none⟩,
     ⟨some 23, .load none false, [.t 22], none⟩,
     ⟨some 24, .len, [.t 23], none⟩,
     ⟨some 25, .bin .lt, [.t 18, .t 24], none⟩] [1, 3, 4, 25] [1])
   (.cond (.t 25)
    .skip
    (.exit 2)))
  (.seq
   (.block 3
    (.seq
     (.reg [] [⟨some 28, .faddr 0, [.t 1], none⟩,
       ⟨some 29, .load none false, [.t 28], none⟩,
       ⟨some 30, .move, [.t 3], none⟩,
       ⟨some 31, .iaddr 1, [.t 29, .t 30], none⟩,
       ⟨some 32, .load none false, [.t 31], none⟩,
       ⟨some 33, .move, [.t 4], none⟩,
       ⟨some 34, .iaddr 2, [.t 32, .t 33], none⟩,
       ⟨some 35, .load (some 2) false, [.t 34], none⟩,
       ⟨some 5, .alloc [.i 0, .i 0], [], none⟩,
       ⟨none, .store 2 true, [.t 5, .t 35], none⟩] [1, 3, 4, 5] [1, 5])
     (.seq
      (.reg [0, 1, 2, 3, 4, 5, 6, 7, 8, 9, 10, 11, 12, 13, 14, 15, 16, 17, 18, 19, 20, 21, 22, 23, 24, 25, 26, 27, 28, 29, 30, 31] [⟨some 36, .faddr 0, [.t 5], none⟩,
        ⟨some 37, .load none false, [.t 36], none⟩,
        ⟨some 38, .call [] false, [.f 76, .t 37], none⟩,
        ⟨some 39, .not, [.t 38], none⟩,
        ⟨some 40, .move, [.t 39], none⟩,
        ⟨some 41, .faddr 1, [.t 5], some (40, false)⟩,
        ⟨some 42, .load none false, [.t 41], some (40, false)⟩,
        ⟨some 43, .faddr 0, [.t 1], some (40, false)⟩,
        ⟨some 44, .load none false, [.t 43], some (40, false)⟩,
        ⟨some 45, .len, [.t 44], some (40, false)⟩,
        ⟨some 46, .bin .sub, [.t 45, .k (.i 1)], some (40, false)⟩,
        ⟨some 47, .call [] false, [.f 60, .t 42, .k (.i 0), .t 46], some (40, false)⟩,
        ⟨some 48, .not, [.t 47], some (40, false)⟩,
        ⟨some 49, .pick, [.t 40, .k (.b true), .t 48], none⟩,
        ⟨some 50, .move, [.t 49], none⟩,
        ⟨some 51, .move, [.t 4], some (50, false)⟩,
        ⟨some 52, .bin .gt, [.t 51, .k (.i 0)], some (50, false)⟩,
        ⟨some 53, .move, [.t 52], some (50, false)⟩,
        ⟨some 54, .faddr 0, [.t 1], some (53, true)⟩,
        ⟨some 55, .load none false, [.t 54], some (53, true)⟩,
        ⟨some 56, .move, [.t 3], some (53, true)⟩,
        ⟨some 57, .iaddr 1, [.t 55, .t 56], some (53, true)⟩,
        ⟨some 58, .load none false, [.t 57], some (53, true)⟩,
        ⟨some 59, .move, [.t 4], some (53, true)⟩,
        ⟨some 60, .bin .sub, [.t 59, .k (.i 1)], some (53, true)⟩,
        ⟨some 61, .iaddr 2, [.t 58, .t 60], some (53, true)⟩,
        ⟨some 62, .load (some 2) false, [.t 61], some (53, true)⟩,
        ⟨some 63, .load (some 2) false, [.t 5], some (53, true)⟩,
        ⟨some 64, .call [] false, [.f 90, .t 62, .t 63], some (53, true)⟩,
        ⟨some 65, .not, [.t 64], some (53, true)⟩,
        ⟨some 66, .pick, [.t 53, .t 65, .k (.b false)], some (50, false)⟩,
        ⟨some 67, .pick, [.t 50, .k (.b true), .t 66], none⟩] [1, 3, 4, 67] [1])
      (.cond (.t 67)
       (.seq
        (.reg [] [⟨some 2, .move, [.k (.b false)], none⟩] [2] [])
        .ret)
       .skip))))
   (.reg [] [⟨some 26, .move, [.t 4], none⟩,
     ⟨some 27, .bin .add, [.t 26, .k (.i 1)], none⟩,
     ⟨some 4, .move, [.t 27], none⟩] [1, 3, 4] [1])))
def c47l0 : AC := b47l0
theorem r47l0 (call lp s) : run call lp c47l0 s = run call lp b47l0 s := rfl
def b47l1 : AC :=
 (.seq
  (.seq
   (.reg [] [⟨some 11, .move, [.t 3], none⟩,
     ⟨some 12, .faddr 0, [.t 1], none⟩,
     ⟨some 13, .load none false, [.t 12], none⟩,
     ⟨some 14, .len, [.t 13], none⟩,
     ⟨some 15, .bin .lt, [.t 11, .t 14], none⟩] [1, 3, 15] [1])
   (.cond (.t 15)
    .skip
    (.exit 0)))
  (.seq
   (.block 1
    (.seq
     (.reg [] [⟨some 4, .move, [.k (.i 0)], none⟩] [1, 3, 4] [1])
     (.block 2
      (.loop [1, 3, 4] [1] c47l0))))
   (.reg [] [⟨some 16, .move, [.t 3], none⟩,
     ⟨some 17, .bin .add, [.t 16, .k (.i 1)], none⟩,
     ⟨some 3, .move, [.t 17], none⟩] [1, 3] [1])))
def c47l1 : AC := b47l1
theorem r47l1 (call lp s) : run call lp c47l1 s = run call lp b47l1 s := rfl
/-- spec.GraphOk -/
def c47 : AC :=
 (.seq
  (.reg [] [⟨some 1, .box, [.t 0], none⟩,
    ⟨some 2, .move, [.k (.b false)], none⟩] [1] [1])
  (.seq
   (.seq
    (.reg [] [⟨some 6, .faddr 0, [.t 1], none⟩,
      ⟨some 7, .load none false, [.t 6], none⟩,
      ⟨some 8, .len, [.t 7], none⟩,
      ⟨some 9, .call [] false, [.f 60, .t 8, .k (.i 1), .k (.i 60)], none⟩,
      ⟨some 10, .not, [.t 9], none⟩] [1, 10] [1])
    (.cond (.t 10)
     (.seq
      (.reg [] [⟨some 2, .move, [.k (.b false)], none⟩] [2] [])
      .ret)
     .skip))
   (.seq
    (.seq
     (.reg [] [⟨some 3, .move, [.k (.i 0)], none⟩] [1, 3] [1])
     (.block 0
      (.loop [1, 3] [1] c47l1)))
    (.seq
     (.reg [] [⟨some 2, .move, [.k (.b true)], none⟩] [2] [])
     .ret))))
def a47 : AF := ⟨c47, [.tmp 2]⟩
/-- spec.l12Named -/
def c67 : AC :=
 (.seq
  (.reg [] [⟨some 4, .move, [.k (.b false)], none⟩] [0, 1] [])
  (.seq
   (.reg [] [⟨some 5, .move, [.t 0], none⟩,
     ⟨some 6, .bin .ne, [.t 5, .k (.i 0)], none⟩,
     ⟨some 7, .move, [.t 6], none⟩,
     ⟨some 8, .move, [.t 1], some (7, true)⟩,
     ⟨some 9, .move, [.t 0], some (7, true)⟩,
     ⟨some 10, .call [] false, [.f 61, .t 9], some (7, true)⟩,
     ⟨some 11, .iaddr 1, [.t 8, .t 10], some (7, true)⟩,
     ⟨some 12, .load none false, [.t 11], some (7, true)⟩,
     ⟨some 13, .pick, [.t 7, .t 12, .k (.b false)], none⟩,
     ⟨some 4, .move, [.t 13], none⟩] [4] [])
   .ret))
def a67 : AF := ⟨c67, [.tmp 4]⟩
def b104l0 : AC :=
 (.seq
  (.seq
   (.reg [] [⟨some 33, .move, [.t 9], none⟩,
     ⟨some 34, .move, [.t 8], none⟩,
     ⟨some 35, .len, [.t 34], none⟩,
     ⟨some 36, .bin .lt, [.t 33, .t 35], none⟩] [2, 5, 6, 7, 8, 9, 36] [2, 11, 15, 62])
   (.cond (.t 36)
    .skip
    (.exit 2)))
  (.seq
   (.block 3
    (.seq
     (.reg [] [⟨some 39, .move, [.t 6], none⟩,
       ⟨some 40, .move, [.t 8], none⟩,
       ⟨some 41, .move, [.t 9], none⟩,
       ⟨some 42, .iaddr 2, [.t 40, .t 41], none⟩,
       ⟨some 43, .faddr 1, [.t 42], none⟩,
       ⟨some 44, .load none false, [.t 43], none⟩,
       ⟨some 45, .iaddr 1, [.t 39, .t 44], none⟩,
       ⟨some 46, .load none false, [.t 45], none⟩,
       ⟨some 47, .not, [.t 46], none⟩] [2, 5, 6, 7, 8, 9, 47] [2, 11, 15, 62])
     (.cond (.t 47)
      (.seq
       (.reg [] [⟨some 48, .move, [.t 6], none⟩,
         ⟨some 49, .move, [.t 8], none⟩,
         ⟨some 50, .move, [.t 9], none⟩,
         ⟨some 51, .iaddr 2, [.t 49, .t 50], none⟩,
         ⟨some 52, .faddr 1, [.t 51], none⟩,
         ⟨some 53, .load none false, [.t 52], none⟩,
         ⟨some 54, .iaddr 1, [.t 48, .t 53], none⟩,
         ⟨none, .store 1 true, [.t 54, .k (.b true)], none⟩] [2, 5, 6, 7, 8, 9] [2, 11, 15, 62])
       (.reg [] [⟨some 55, .move, [.t 5], none⟩,
         ⟨some 56, .move, [.t 8], none⟩,
         ⟨some 57, .move, [.t 9], none⟩,
         ⟨some 58, .iaddr 2, [.t 56, .t 57], none⟩,
         ⟨some 59, .faddr 1, [.t 58], none⟩,
         ⟨some 60, .load none false, [.t 59], none⟩,
         ⟨some 61, .bslice 1 true, [.t 60], none⟩,
         ⟨some 62, .append 1 true, [.t 55, .t 61], none⟩,
         ⟨some 5, .move, [.t 62], none⟩] [2, 5, 6, 7, 8, 9] [2, 11, 15, 62]))
      .skip)))
   (.reg [] [⟨some 37, .move, [.t 9], none⟩,
     ⟨some 38, .bin .add, [.t 37, .k (.i 1)], none⟩,
     ⟨some 9, .move, [.t 38], none⟩] [2, 5, 6, 7, 8, 9] [2, 11, 15, 62])))
def c104l0 : AC := b104l0
theorem r104l0 (call lp s) : run call lp c104l0 s = run call lp b104l0 s := rfl
def b104l1 : AC :=
 (.seq
  (.seq
   (.reg [] [⟨some 19, .move, [.t 7], none⟩,
     ⟨some 20, .move, [.t 5], none⟩,
     ⟨some 21, .len, [.t 20], none⟩,
     ⟨some 22, .bin .lt, [.t 19, .t 21], none⟩] [2, 5, 6, 7, 22] [2, 11, 15, 62])
   (.cond (.t 22)
    .skip
    (.exit 0)))
  (.seq
   (.block 1
    (.seq
     (.reg [0, 1, 2, 3, 4, 5, 6, 7, 8] [⟨some 25, .faddr 0, [.t 2], none⟩,
       ⟨some 26, .load none false, [.t 25], none⟩,
       ⟨some 27, .move, [.t 5], none⟩,
       ⟨some 28, .move, [.t 7], none⟩,
       ⟨some 29, .iaddr 1, [.t 27, .t 28], none⟩,
       ⟨some 30, .load none false, [.t 29], none⟩,
       ⟨some 31, .iaddr 1, [.t 26, .t 30], none⟩,
       ⟨some 32, .load none false, [.t 31], none⟩,
       ⟨some 8, .move, [.t 32], none⟩] [2, 5, 6, 7, 8] [2, 11, 15, 62])
     (.seq
      (.reg [] [⟨some 9, .move, [.k (.i 0)], none⟩] [2, 5, 6, 7, 8, 9] [2, 11, 15, 62])
      (.block 2
       (.loop [2, 5, 6, 7, 8, 9] [2, 11, 15, 62] c104l0)))))
   (.reg [] [⟨some 23, .move, [.t 7], none⟩,
     ⟨some 24, .bin .add, [.t 23, .k (.i 1)], none⟩,
     ⟨some 7, .move, [.t 24], none⟩] [2, 5, 6, 7] [2, 11, 15, 62])))
def c104l1 : AC := b104l1
theorem r104l1 (call lp s) : run call lp c104l1 s = run call lp b104l1 s := rfl
/-- spec.l3From -/
def c104 : AC :=
 (.seq
  (.reg [] [⟨some 2, .box, [.t 0], none⟩,
    ⟨some 4, .move, [.k (.nils)], none⟩] [1, 2] [2])
  (.seq
   (.reg [] [⟨some 10, .move, [.t 1], none⟩,
     ⟨some 11, .bslice 1 true, [.t 10], none⟩,
     ⟨some 5, .move, [.t 11], none⟩] [1, 2, 5] [2, 11, 62])
   (.seq
    (.reg [] [⟨some 12, .faddr 0, [.t 2], none⟩,
      ⟨some 13, .load none false, [.t 12], none⟩,
      ⟨some 14, .len, [.t 13], none⟩,
      ⟨some 15, .mkslice 1 (.b false), [.t 14, .t 14], none⟩,
      ⟨some 6, .move, [.t 15], none⟩] [1, 2, 5, 6] [2, 11, 15, 62])
    (.seq
     (.reg [] [⟨some 16, .move, [.t 6], none⟩,
       ⟨some 17, .move, [.t 1], none⟩,
       ⟨some 18, .iaddr 1, [.t 16, .t 17], none⟩,
       ⟨none, .store 1 true, [.t 18, .k (.b true)], none⟩] [2, 5, 6] [2, 11, 15, 62])
     (.seq
      (.seq
       (.reg [] [⟨some 7, .move, [.k (.i 0)], none⟩] [2, 5, 6, 7] [2, 11, 15, 62])
       (.block 0
        (.loop [2, 5, 6, 7] [2, 11, 15, 62] c104l1)))
      (.seq
       (.reg [] [⟨some 63, .move, [.t 5], none⟩,
         ⟨some 4, .move, [.t 63], none⟩] [4] [11, 62])
       .ret))))))
def a104 : AF := ⟨c104, [.tmp 4]⟩
def b91l0 : AC :=
 (.seq
  (.seq
   (.reg [] [⟨some 20, .move, [.t 7], none⟩,
     ⟨some 21, .move, [.t 5], none⟩,
     ⟨some 22, .len, [.t 21], none⟩,
     ⟨some 23, .bin .lt, [.t 20, .t 22], none⟩] [2, 4, 5, 6, 7, 23] [2, 4, 15, 19, 81])
   (.cond (.t 23)
    .skip
    (.exit 0)))
  (.seq
   (.block 1
    (.reg [] [⟨some 26, .move, [.t 6], none⟩,
      ⟨some 27, .move, [.t 5], none⟩,
      ⟨some 28, .move, [.t 7], none⟩,
      ⟨some 29, .iaddr 1, [.t 27, .t 28], none⟩,
      ⟨some 30, .load none false, [.t 29], none⟩,
      ⟨some 31, .move, [.t 7], none⟩,
      ⟨some 32, .iaddr 1, [.t 26, .t 30], none⟩,
      ⟨none, .store 1 true, [.t 32, .t 31], none⟩] [2, 4, 5, 6, 7] [2, 4, 15, 19, 81]))
   (.reg [] [⟨some 24, .move, [.t 7], none⟩,
     ⟨some 25, .bin .add, [.t 24, .k (.i 1)], none⟩,
     ⟨some 7, .move, [.t 25], none⟩] [2, 4, 5, 6, 7] [2, 4, 15, 19, 81])))
def c91l0 : AC := b91l0
theorem r91l0 (call lp s) : run call lp c91l0 s = run call lp b91l0 s := rfl
def b91l1 : AC :=
 (.seq
  (.seq
   (.reg [0, 1, 2, 3, 4, 5, 6, 7, 8, 9, 10] [⟨some 41, .move, [.t 11], none⟩,
     ⟨some 42, .faddr 0, [.t 2], none⟩,
     ⟨some 43, .load none false, [.t 42], none⟩,
     ⟨some 44, .move, [.t 5], none⟩,
     ⟨some 45, .move, [.t 9], none⟩,
     ⟨some 46, .iaddr 1, [.t 44, .t 45], none⟩,
     ⟨some 47, .load none false, [.t 46], none⟩,
     ⟨some 48, .iaddr 1, [.t 43, .t 47], none⟩,
     ⟨some 49, .load none false, [.t 48], none⟩,
     ⟨some 50, .len, [.t 49], none⟩,
     ⟨some 51, .bin .lt, [.t 41, .t 50], none⟩] [2, 4, 5, 6, 8, 9, 10, 11, 51] [2, 4, 8, 15, 19, 40, 75, 81])
   (.cond (.t 51)
    .skip
    (.exit 4)))
  (.seq
   (.block 5
    (.seq
     (.reg [0, 1, 2, 3, 4, 5, 6, 7, 8, 9, 10, 11, 20] [⟨some 54, .faddr 0, [.t 2], none⟩,
       ⟨some 55, .load none false, [.t 54], none⟩,
       ⟨some 56, .move, [.t 5], none⟩,
       ⟨some 57, .move, [.t 9], none⟩,
       ⟨some 58, .iaddr 1, [.t 56, .t 57], none⟩,
       ⟨some 59, .load none false, [.t 58], none⟩,
       ⟨some 60, .iaddr 1, [.t 55, .t 59], none⟩,
       ⟨some 61, .load none false, [.t 60], none⟩,
       ⟨some 62, .move, [.t 11], none⟩,
       ⟨some 63, .iaddr 2, [.t 61, .t 62], none⟩,
       ⟨some 64, .load (some 2) false, [.t 63], none⟩,
       ⟨some 12, .alloc [.i 0, .i 0], [], none⟩,
       ⟨none, .chk (.faddr 0), [.t 54, .t 2], none⟩,
       ⟨none, .chk (.load none false), [.t 55, .t 54], none⟩,
       ⟨none, .chk (.iaddr 1), [.t 58, .t 56, .t 57], none⟩,
       ⟨none, .chk (.load none false), [.t 59, .t 58], none⟩,
       ⟨none, .chk (.iaddr 1), [.t 60, .t 55, .t 59], none⟩,
       ⟨none, .chk (.load none false), [.t 61, .t 60], none⟩,
       ⟨none, .chk (.iaddr 2), [.t 63, .t 61, .t 62], none⟩,
       ⟨none, .chk (.load (some 2) false), [.t 64, .t 63], none⟩,
       ⟨none, .store 2 true, [.t 12, .t 64], none⟩] [2, 4, 5, 6, 8, 9, 10, 11, 12] [2, 4, 8, 12, 15, 19, 40, 75, 81])
     (.reg [0, 1, 2, 3, 4, 5, 6, 7, 8, 9, 10, 11] [⟨some 65, .move, [.t 10], none⟩,
       ⟨some 66, .faddr 0, [.t 12], none⟩,
       ⟨some 67, .load none false, [.t 66], none⟩,
       ⟨some 68, .move, [.t 6], none⟩,
       ⟨some 69, .faddr 1, [.t 12], none⟩,
       ⟨some 70, .load none false, [.t 69], none⟩,
       ⟨some 71, .iaddr 1, [.t 68, .t 70], none⟩,
       ⟨some 72, .load none false, [.t 71], none⟩,
       ⟨some 73, .build [.i 0, .i 0] [(0, 1), (1, 1)], [.t 67, .t 72], none⟩,
       ⟨some 74, .bslice 2 true, [.t 73], none⟩,
       ⟨some 75, .append 2 true, [.t 65, .t 74], none⟩,
       ⟨some 10, .move, [.t 75], none⟩] [2, 4, 5, 6, 8, 9, 10, 11] [2, 4, 8, 15, 19, 40, 75, 81])))
   (.reg [] [⟨some 52, .move, [.t 11], none⟩,
     ⟨some 53, .bin .add, [.t 52, .k (.i 1)], none⟩,
     ⟨some 11, .move, [.t 53], none⟩] [2, 4, 5, 6, 8, 9, 10, 11] [2, 4, 8, 15, 19, 40, 75, 81])))
def c91l1 : AC := b91l1
theorem r91l1 (call lp s) : run call lp c91l1 s = run call lp b91l1 s := rfl
def b91l2 : AC :=
 (.seq
  (.seq
   (.reg [] [⟨some 34, .move, [.t 9], none⟩,
     ⟨some 35, .move, [.t 5], none⟩,
     ⟨some 36, .len, [.t 35], none⟩,
     ⟨some 37, .bin .lt, [.t 34, .t 36], none⟩] [2, 4, 5, 6, 8, 9, 37] [2, 4, 8, 15, 19, 81])
   (.cond (.t 37)
    .skip
    (.exit 2)))
  (.seq
   (.block 3
    (.seq
     (.reg [] [⟨some 40, .bslice 2 true, [], none⟩,
       ⟨some 10, .move, [.t 40], none⟩] [2, 4, 5, 6, 8, 9, 10] [2, 4, 8, 15, 19, 40, 75, 81])
     (.seq
      (.seq
       (.reg [] [⟨some 11, .move, [.k (.i 0)], none⟩] [2, 4, 5, 6, 8, 9, 10, 11] [2, 4, 8, 15, 19, 40, 75, 81])
       (.block 4
        (.loop [2, 4, 5, 6, 8, 9, 10, 11] [2, 4, 8, 15, 19, 40, 75, 81] c91l1)))
      (.reg [0, 1, 2, 3, 6, 9, 10, 11] [⟨some 76, .faddr 0, [.t 8], none⟩,
        ⟨some 77, .load none false, [.t 76], none⟩,
        ⟨some 78, .move, [.t 10], none⟩,
        ⟨some 79, .call [] false, [.f 68, .t 78], none⟩,
        ⟨none, .chk (.faddr 0), [.t 76, .t 8], none⟩,
        ⟨none, .chk (.load none false), [.t 77, .t 76], none⟩,
        ⟨some 80, .bslice 1 true, [.t 79], none⟩,
        ⟨none, .chk (.faddr 0), [.t 76, .t 8], none⟩,
        ⟨none, .chk (.load none false), [.t 77, .t 76], none⟩,
        ⟨some 81, .append 1 true, [.t 77, .t 80], none⟩,
        ⟨some 82, .faddr 0, [.t 8], none⟩,
        ⟨none, .store 1 true, [.t 82, .t 81], none⟩] [2, 4, 5, 6, 8, 9] [2, 4, 8, 15, 19, 81]))))
   (.reg [] [⟨some 38, .move, [.t 9], none⟩,
     ⟨some 39, .bin .add, [.t 38, .k (.i 1)], none⟩,
     ⟨some 9, .move, [.t 39], none⟩] [2, 4, 5, 6, 8, 9] [2, 4, 8, 15, 19, 81])))
def c91l2 : AC := b91l2
theorem r91l2 (call lp s) : run call lp c91l2 s = run call lp b91l2 s := rfl
/-- spec.l3Part -/
def c91 : AC :=
 (.seq
  (.reg [] [⟨some 2, .box, [.t 0], none⟩,
    ⟨some 4, .alloc [.nils], [], none⟩] [1, 2, 4] [2, 4, 81])
  (.seq
   (.reg [] [⟨some 13, .load (some 1) false, [.t 2], none⟩,
     ⟨some 14, .move, [.t 1], none⟩,
     ⟨some 15, .call [] false, [.f 104, .t 13, .t 14], none⟩,
     ⟨some 5, .move, [.t 15], none⟩] [2, 4, 5] [2, 4, 15, 81])
   (.seq
    (.reg [] [⟨some 16, .faddr 0, [.t 2], none⟩,
      ⟨some 17, .load none false, [.t 16], none⟩,
      ⟨some 18, .len, [.t 17], none⟩,
      ⟨some 19, .mkslice 1 (.i 0), [.t 18, .t 18], none⟩,
      ⟨some 6, .move, [.t 19], none⟩] [2, 4, 5, 6] [2, 4, 15, 19, 81])
    (.seq
     (.seq
      (.reg [] [⟨some 7, .move, [.k (.i 0)], none⟩] [2, 4, 5, 6, 7] [2, 4, 15, 19, 81])
      (.block 0
       (.loop [2, 4, 5, 6, 7] [2, 4, 15, 19, 81] c91l0)))
     (.seq
      (.reg [] [⟨some 33, .build [.nils] [], [], none⟩,
        ⟨some 8, .alloc [.nils], [], none⟩,
        ⟨none, .store 1 true, [.t 8, .t 33], none⟩] [2, 4, 5, 6, 8] [2, 4, 8, 15, 19, 81])
      (.seq
       (.seq
        (.reg [] [⟨some 9, .move, [.k (.i 0)], none⟩] [2, 4, 5, 6, 8, 9] [2, 4, 8, 15, 19, 81])
        (.block 2
         (.loop [2, 4, 5, 6, 8, 9] [2, 4, 8, 15, 19, 81] c91l2)))
       (.seq
        (.reg [] [⟨some 83, .load (some 1) false, [.t 8], none⟩,
          ⟨none, .store 1 true, [.t 4, .t 83], none⟩] [4] [4, 81])
        .ret)))))))
def a91 : AF := ⟨c91, [.cell 4 (some 1)]⟩
/-- spec.l12Made -/
def c48 : AC :=
 (.seq
  (.reg [] [⟨some 1, .box, [.t 0], none⟩,
    ⟨some 2, .alloc [.nils], [], none⟩,
    ⟨some 3, .move, [.k (.b false)], none⟩] [1, 2] [1, 2, 6])
  (.seq
   (.reg [] [⟨some 5, .load (some 1) false, [.t 1], none⟩,
     ⟨some 6, .call [] false, [.f 91, .t 5, .k (.i 0)], none⟩,
     ⟨some 4, .alloc [.nils], [], none⟩,
     ⟨none, .store 1 true, [.t 4, .t 6], none⟩] [2, 4] [2, 4, 6])
   (.seq
    (.seq
     (.reg [] [⟨some 7, .faddr 0, [.t 4], none⟩,
       ⟨some 8, .load none false, [.t 7], none⟩,
       ⟨some 9, .len, [.t 8], none⟩,
       ⟨some 10, .bin .gt, [.t 9, .k (.i 60)], none⟩] [2, 4, 10] [2, 4, 6])
     (.cond (.t 10)
      (.seq
       (.reg [] [⟨some 11, .build [.nils] [], [], none⟩,
         ⟨none, .store 1 true, [.t 2, .t 11], none⟩,
         ⟨some 3, .move, [.k (.b false)], none⟩] [2, 3] [2, 6])
       .ret)
      .skip))
    (.seq
     (.reg [] [⟨some 12, .load (some 1) false, [.t 4], none⟩,
       ⟨none, .store 1 true, [.t 2, .t 12], none⟩,
       ⟨some 3, .move, [.k (.b true)], none⟩] [2, 3] [2, 6])
     .ret))))
def a48 : AF := ⟨c48, [.cell 2 (some 1), .tmp 3]⟩
def b27l0 : AC :=
 (.seq
  (.seq
   (.reg [] [⟨some 29, .move, [.t 9], none⟩,
     ⟨some 30, .faddr 0, [.t 2], none⟩,
     ⟨some 31, .load none false, [.t 30], none⟩,
     ⟨some 32, .move, [.t 7], none⟩,
     ⟨some 33, .iaddr 1, [.t 31, .t 32], none⟩,
     ⟨some 34, .load none false, [.t 33], none⟩,
     ⟨some 35, .len, [.t 34], none⟩,
     ⟨some 36, .bin .lt, [.t 29, .t 35], none⟩] [1, 2, 4, 6, 7, 8, 9, 36] [2, 4, 6, 28, 55, 61, 64])
   (.cond (.t 36)
    .skip
    (.exit 2)))
  (.seq
   (.block 3
    (.seq
     (.reg [] [⟨some 39, .faddr 0, [.t 2], none⟩,
       ⟨some 40, .load none false, [.t 39], none⟩,
       ⟨some 41, .move, [.t 7], none⟩,
       ⟨some 42, .iaddr 1, [.t 40, .t 41], none⟩,
       ⟨some 43, .load none false, [.t 42], none⟩,
       ⟨some 44, .move, [.t 9], none⟩,
       ⟨some 45, .iaddr 2, [.t 43, .t 44], none⟩,
       ⟨some 46, .load (some 2) false, [.t 45], none⟩,
       ⟨some 10, .alloc [.i 0, .i 0], [], none⟩,
       ⟨none, .store 2 true, [.t 10, .t 46], none⟩] [1, 2, 4, 6, 7, 8, 9, 10] [2, 4, 6, 10, 28, 55, 61, 64])
     (.seq
      (.seq
       (.reg [] [⟨some 47, .faddr 0, [.t 10], none⟩,
         ⟨some 48, .load none false, [.t 47], none⟩,
         ⟨some 49, .move, [.t 1], none⟩,
         ⟨some 50, .call [] false, [.f 67, .t 48, .t 49], none⟩] [1, 2, 4, 6, 7, 8, 9, 10, 50] [2, 4, 6, 10, 28, 55, 61, 64])
       (.cond (.t 50)
        (.reg [] [⟨some 51, .faddr 0, [.t 10], none⟩,
          ⟨none, .store 1 true, [.t 51, .k (.i 0)], none⟩] [1, 2, 4, 6, 7, 8, 9, 10] [2, 4, 6, 10, 28, 55, 61, 64])
        .skip))
      (.reg [] [⟨some 52, .move, [.t 8], none⟩,
        ⟨some 53, .load (some 2) false, [.t 10], none⟩,
        ⟨some 54, .bslice 2 true, [.t 53], none⟩,
        ⟨some 55, .append 2 true, [.t 52, .t 54], none⟩,
        ⟨some 8, .move, [.t 55], none⟩] [1, 2, 4, 6, 7, 8, 9] [2, 4, 6, 28, 55, 61, 64]))))
   (.reg [] [⟨some 37, .move, [.t 9], none⟩,
     ⟨some 38, .bin .add, [.t 37, .k (.i 1)], none⟩,
     ⟨some 9, .move, [.t 38], none⟩] [1, 2, 4, 6, 7, 8, 9] [2, 4, 6, 28, 55, 61, 64])))
def c27l0 : AC := b27l0
theorem r27l0 (call lp s) : run call lp c27l0 s = run call lp b27l0 s := rfl
def b27l1 : AC :=
 (.seq
  (.seq
   (.reg [] [⟨some 21, .move, [.t 7], none⟩,
     ⟨some 22, .faddr 0, [.t 2], none⟩,
     ⟨some 23, .load none false, [.t 22], none⟩,
     ⟨some 24, .len, [.t 23], none⟩,
     ⟨some 25, .bin .lt, [.t 21, .t 24], none⟩] [1, 2, 4, 6, 7, 25] [2, 4, 6, 61, 64])
   (.cond (.t 25)
    .skip
    (.exit 0)))
  (.seq
   (.block 1
    (.seq
     (.reg [] [⟨some 28, .bslice 2 true, [], none⟩,
       ⟨some 8, .move, [.t 28], none⟩] [1, 2, 4, 6, 7, 8] [2, 4, 6, 28, 55, 61, 64])
     (.seq
      (.seq
       (.reg [] [⟨some 9, .move, [.k (.i 0)], none⟩] [1, 2, 4, 6, 7, 8, 9] [2, 4, 6, 28, 55, 61, 64])
       (.block 2
        (.loop [1, 2, 4, 6, 7, 8, 9] [2, 4, 6, 28, 55, 61, 64] c27l0)))
      (.reg [0, 1, 2, 3, 6, 9, 10, 11] [⟨some 56, .faddr 0, [.t 6], none⟩,
        ⟨some 57, .load none false, [.t 56], none⟩,
        ⟨some 58, .move, [.t 8], none⟩,
        ⟨some 59, .call [] false, [.f 68, .t 58], none⟩,
        ⟨none, .chk (.faddr 0), [.t 56, .t 6], none⟩,
        ⟨none, .chk (.load none false), [.t 57, .t 56], none⟩,
        ⟨some 60, .bslice 1 true, [.t 59], none⟩,
        ⟨none, .chk (.faddr 0), [.t 56, .t 6], none⟩,
        ⟨none, .chk (.load none false), [.t 57, .t 56], none⟩,
        ⟨some 61, .append 1 true, [.t 57, .t 60], none⟩,
        ⟨some 62, .faddr 0, [.t 6], none⟩,
        ⟨none, .store 1 true, [.t 62, .t 61], none⟩] [1, 2, 4, 6, 7] [2, 4, 6, 61, 64]))))
   (.reg [] [⟨some 26, .move, [.t 7], none⟩,
     ⟨some 27, .bin .add, [.t 26, .k (.i 1)], none⟩,
     ⟨some 7, .move, [.t 27], none⟩] [1, 2, 4, 6, 7] [2, 4, 6, 61, 64])))
def c27l1 : AC := b27l1
theorem r27l1 (call lp s) : run call lp c27l1 s = run call lp b27l1 s := rfl
/-- spec.GraphVeil -/
def c27 : AC :=
 (.seq
  (.reg [] [⟨some 2, .box, [.t 0], none⟩,
    ⟨some 4, .alloc [.nils], [], none⟩,
    ⟨some 5, .move, [.k (.b false)], none⟩] [1, 2, 4] [2, 4, 61, 64])
  (.seq
   (.seq
    (.reg [] [⟨some 11, .load (some 1) false, [.t 2], none⟩,
      ⟨some 12, .call [] false, [.f 47, .t 11], none⟩,
      ⟨some 13, .not, [.t 12], none⟩,
      ⟨some 14, .move, [.t 13], none⟩,
      ⟨some 15, .move, [.t 1], some (14, false)⟩,
      ⟨some 16, .len, [.t 15], some (14, false)⟩,
      ⟨some 17, .bin .ne, [.t 16, .k (.i 4)], some (14, false)⟩,
      ⟨some 18, .pick, [.t 14, .k (.b true), .t 17], none⟩] [1, 2, 4, 18] [2, 4, 61, 64])
    (.cond (.t 18)
     (.seq
      (.reg [] [⟨some 19, .build [.nils] [], [], none⟩,
        ⟨none, .store 1 true, [.t 4, .t 19], none⟩,
        ⟨some 5, .move, [.k (.b false)], none⟩] [4, 5] [4, 61, 64])
      .ret)
     .skip))
   (.seq
    (.reg [] [⟨some 20, .build [.nils] [], [], none⟩,
      ⟨some 6, .alloc [.nils], [], none⟩,
      ⟨none, .store 1 true, [.t 6, .t 20], none⟩] [1, 2, 4, 6] [2, 4, 6, 61, 64])
    (.seq
     (.seq
      (.reg [] [⟨some 7, .move, [.k (.i 0)], none⟩] [1, 2, 4, 6, 7] [2, 4, 6, 61, 64])
      (.block 0
       (.loop [1, 2, 4, 6, 7] [2, 4, 6, 61, 64] c27l1)))
     (.seq
      (.reg [] [⟨some 63, .load (some 1) false, [.t 6], none⟩,
        ⟨some 64, .call [] false, [.f 48, .t 63], none⟩,
        ⟨some 65, .ext 0, [.t 64], none⟩,
        ⟨some 66, .ext 1, [.t 64], none⟩,
        ⟨none, .store 1 true, [.t 4, .t 65], none⟩,
        ⟨some 5, .move, [.t 66], none⟩] [4, 5] [4, 61, 64])
      .ret)))))
def a27 : AF := ⟨c27, [.cell 4 (some 1), .tmp 5]⟩
def b19l0 : AC :=
 (.seq
  (.seq
   (.reg [] [⟨some 34, .move, [.t 6], none⟩,
     ⟨some 35, .faddr 0, [.t 2], none⟩,
     ⟨some 36, .load none false, [.t 35], none⟩,
     ⟨some 37, .move, [.t 5], none⟩,
     ⟨some 38, .iaddr 1, [.t 36, .t 37], none⟩,
     ⟨some 39, .load none false, [.t 38], none⟩,
     ⟨some 40, .len, [.t 39], none⟩,
     ⟨some 41, .bin .lt, [.t 34, .t 40], none⟩] [2, 3, 5, 6, 41] [2, 3])
   (.cond (.t 41)
    .skip
    (.exit 2)))
  (.seq
   (.block 3
    (.seq
     (.reg [0, 1, 2, 3, 4, 5, 6, 7, 8, 9, 10, 11, 12, 13, 14, 15, 16] [⟨some 44, .faddr 0, [.t 2], none⟩,
       ⟨some 45, .load none false, [.t 44], none⟩,
       ⟨some 46, .move, [.t 5], none⟩,
       ⟨some 47, .iaddr 1, [.t 45, .t 46], none⟩,
       ⟨some 48, .load none false, [.t 47], none⟩,
       ⟨some 49, .move, [.t 6], none⟩,
       ⟨some 50, .iaddr 2, [.t 48, .t 49], none⟩,
       ⟨some 51, .load (some 2) false, [.t 50], none⟩,
       ⟨some 52, .faddr 0, [.t 3], none⟩,
       ⟨some 53, .load none false, [.t 52], none⟩,
       ⟨some 54, .move, [.t 5], none⟩,
       ⟨some 55, .iaddr 1, [.t 53, .t 54], none⟩,
       ⟨some 56, .load none false, [.t 55], none⟩,
       ⟨some 57, .move, [.t 6], none⟩,
       ⟨some 58, .iaddr 2, [.t 56, .t 57], none⟩,
       ⟨some 59, .load (some 2) false, [.t 58], none⟩,
       ⟨some 60, .meq true, [.t 51, .t 59], none⟩] [2, 3, 5, 6, 60] [2, 3])
     (.cond (.t 60)
      (.seq
       (.reg [] [⟨some 4, .move, [.k (.b false)], none⟩] [4] [])
       .ret)
      .skip)))
   (.reg [] [⟨some 42, .move, [.t 6], none⟩,
     ⟨some 43, .bin .add, [.t 42, .k (.i 1)], none⟩,
     ⟨some 6, .move, [.t 43], none⟩] [2, 3, 5, 6] [2, 3])))
def c19l0 : AC := b19l0
theorem r19l0 (call lp s) : run call lp c19l0 s = run call lp b19l0 s := rfl
def b19l1 : AC :=
 (.seq
  (.seq
   (.reg [] [⟨some 14, .move, [.t 5], none⟩,
     ⟨some 15, .faddr 0, [.t 2], none⟩,
     ⟨some 16, .load none false, [.t 15], none⟩,
     ⟨some 17, .len, [.t 16], none⟩,
     ⟨some 18, .bin .lt, [.t 14, .t 17], none⟩] [2, 3, 5, 18] [2, 3])
   (.cond (.t 18)
    .skip
    (.exit 0)))
  (.seq
   (.block 1
    (.seq
     (.seq
      (.reg [0, 1, 2, 3, 4, 5, 6, 7, 8, 9, 10, 11, 12] [⟨some 21, .faddr 0, [.t 2], none⟩,
        ⟨some 22, .load none false, [.t 21], none⟩,
        ⟨some 23, .move, [.t 5], none⟩,
        ⟨some 24, .iaddr 1, [.t 22, .t 23], none⟩,
        ⟨some 25, .load none false, [.t 24], none⟩,
        ⟨some 26, .len, [.t 25], none⟩,
        ⟨some 27, .faddr 0, [.t 3], none⟩,
        ⟨some 28, .load none false, [.t 27], none⟩,
        ⟨some 29, .move, [.t 5], none⟩,
        ⟨some 30, .iaddr 1, [.t 28, .t 29], none⟩,
        ⟨some 31, .load none false, [.t 30], none⟩,
        ⟨some 32, .len, [.t 31], none⟩,
        ⟨some 33, .bin .ne, [.t 26, .t 32], none⟩] [2, 3, 5, 33] [2, 3])
      (.cond (.t 33)
       (.seq
        (.reg [] [⟨some 4, .move, [.k (.b false)], none⟩] [4] [])
        .ret)
       .skip))
     (.seq
      (.reg [] [⟨some 6, .move, [.k (.i 0)], none⟩] [2, 3, 5, 6] [2, 3])
      (.block 2
       (.loop [2, 3, 5, 6] [2, 3] c19l0)))))
   (.reg [] [⟨some 19, .move, [.t 5], none⟩,
     ⟨some 20, .bin .add, [.t 19, .k (.i 1)], none⟩,
     ⟨some 5, .move, [.t 20], none⟩] [2, 3, 5] [2, 3])))
def c19l1 : AC := b19l1
theorem r19l1 (call lp s) : run call lp c19l1 s = run call lp b19l1 s := rfl
/-- laws.mnGraph -/
def c19 : AC :=
 (.seq
  (.reg [] [⟨some 2, .box, [.t 0], none⟩,
    ⟨some 3, .box, [.t 1], none⟩,
    ⟨some 4, .move, [.k (.b false)], none⟩] [2, 3] [2, 3])
  (.seq
   (.seq
    (.reg [] [⟨some 7, .faddr 0, [.t 2], none⟩,
      ⟨some 8, .load none false, [.t 7], none⟩,
      ⟨some 9, .len, [.t 8], none⟩,
      ⟨some 10, .faddr 0, [.t 3], none⟩,
      ⟨some 11, .load none false, [.t 10], none⟩,
      ⟨some 12, .len, [.t 11], none⟩,
      ⟨some 13, .bin .ne, [.t 9, .t 12], none⟩] [2, 3, 13] [2, 3])
    (.cond (.t 13)
     (.seq
      (.reg [] [⟨some 4, .move, [.k (.b false)], none⟩] [4] [])
      .ret)
     .skip))
   (.seq
    (.seq
     (.reg [] [⟨some 5, .move, [.k (.i 0)], none⟩] [2, 3, 5] [2, 3])
     (.block 0
      (.loop [2, 3, 5] [2, 3] c19l1)))
    (.seq
     (.reg [] [⟨some 4, .move, [.k (.b true)], none⟩] [4] [])
     .ret))))
def a19 : AF := ⟨c19, [.tmp 4]⟩
/-- impl.seen -/
def c62 : AC :=
 (.seq
  (.reg [] [⟨some 2, .move, [.k (.b false)], none⟩] [0] [])
  (.seq
   (.reg [] [⟨some 3, .move, [.t 0], none⟩,
     ⟨some 4, .call [] false, [.f 74, .t 3], none⟩,
     ⟨some 5, .move, [.t 4], none⟩,
     ⟨some 6, .move, [.t 0], some (5, true)⟩,
     ⟨some 7, .bin .ne, [.t 6, .k (.i 0)], some (5, true)⟩,
     ⟨some 8, .pick, [.t 5, .t 7, .k (.b false)], none⟩,
     ⟨some 2, .move, [.t 8], none⟩] [2] [])
   .ret))
def a62 : AF := ⟨c62, [.tmp 2]⟩
/-- impl.ActName -/
def c24 : AC :=
 (.seq
  (.reg [] [⟨some 2, .move, [.k (.i 0)], none⟩,
    ⟨some 3, .move, [.k (.b false)], none⟩] [0] [])
  (.seq
   (.seq
    (.reg [] [⟨some 4, .move, [.t 0], none⟩,
      ⟨some 5, .call [] false, [.f 62, .t 4], none⟩,
      ⟨some 6, .not, [.t 5], none⟩] [0, 6] [])
    (.cond (.t 6)
     (.seq
      (.reg [] [⟨some 2, .move, [.k (.i 0)], none⟩,
        ⟨some 3, .move, [.k (.b false)], none⟩] [2, 3] [])
      .ret)
     .skip))
   (.seq
    (.reg [] [⟨some 7, .move, [.t 0], none⟩,
      ⟨some 8, .call [] false, [.f 58, .t 7], none⟩,
      ⟨some 2, .move, [.t 8], none⟩,
      ⟨some 3, .move, [.k (.b true)], none⟩] [2, 3] [])
    .ret)))
def a24 : AF := ⟨c24, [.tmp 2, .tmp 3]⟩
def b70l0 : AC :=
 (.seq
  (.reg [] [⟨some 9, .bin .lt, [.t 8, .t 7], none⟩] [0, 1, 7, 8, 9] [])
  (.seq
   (.cond (.t 9)
    .skip
    (.exit 0))
   (.seq
    (.block 1
     (.seq
      (.reg [] [⟨some 10, .move, [.t 8], none⟩,
        ⟨some 5, .move, [.t 10], none⟩] [0, 1, 5, 7, 8] [])
      (.seq
       (.reg [] [⟨some 11, .move, [.t 1], none⟩,
         ⟨some 12, .move, [.t 0], none⟩,
         ⟨some 13, .move, [.t 5], none⟩,
         ⟨some 14, .iaddr 1, [.t 12, .t 13], none⟩,
         ⟨some 15, .load none false, [.t 14], none⟩,
         ⟨some 16, .bin .eq, [.t 11, .t 15], none⟩] [0, 1, 5, 7, 8, 16] [])
       (.cond (.t 16)
        (.seq
         (.reg [] [⟨some 17, .move, [.t 5], none⟩,
           ⟨some 4, .move, [.t 17], none⟩] [4] [])
         .ret)
        .skip))))
    (.reg [] [⟨some 18, .bin .add, [.t 8, .k (.i 1)], none⟩,
      ⟨some 8, .move, [.t 18], none⟩] [0, 1, 7, 8] []))))
def c70l0 : AC := b70l0
theorem r70l0 (call lp s) : run call lp c70l0 s = run call lp b70l0 s := rfl
/-- slices.Index[[]int,int] -/
def c70 : AC :=
 (.seq
  (.reg [] [⟨some 4, .move, [.k (.i 0)], none⟩] [0, 1] [])
  (.seq
   (.seq
    (.reg [] [⟨some 6, .move, [.t 0], none⟩,
      ⟨some 7, .len, [.t 6], none⟩,
      ⟨some 8, .move, [.k (.i 0)], none⟩] [0, 1, 7, 8] [])
    (.block 0
     (.loop [0, 1, 7, 8] [] c70l0)))
   (.seq
    (.reg [] [⟨some 4, .move, [.k (.i (-1))], none⟩] [4] [])
    .ret)))
def a70 : AF := ⟨c70, [.tmp 4]⟩
def b28l0 : AC :=
 (.seq
  (.reg [] [⟨some 46, .bin .lt, [.t 45, .t 44], none⟩] [2, 4, 6, 7, 10, 32, 33, 34, 43, 44, 45, 46] [2, 4, 7, 30, 38, 58, 65])
  (.seq
   (.cond (.t 46)
    .skip
    (.exit 2))
   (.seq
    (.block 3
     (.seq
      (.reg [] [⟨some 47, .iaddr 2, [.t 43, .t 45], none⟩,
        ⟨some 48, .load (some 2) false, [.t 47], none⟩,
        ⟨some 12, .alloc [.i 0, .i 0], [], none⟩,
        ⟨none, .store 2 true, [.t 12, .t 48], none⟩] [2, 4, 6, 7, 10, 12, 32, 33, 34, 43, 44, 45] [2, 4, 7, 12, 30, 38, 58, 65])
      (.reg [0, 1, 2, 3, 4, 5, 6, 9, 10, 11, 12] [⟨some 49, .move, [.t 10], none⟩,
        ⟨some 50, .faddr 0, [.t 12], none⟩,
        ⟨some 51, .load none false, [.t 50], none⟩,
        ⟨some 52, .move, [.t 6], none⟩,
        ⟨some 53, .faddr 1, [.t 12], none⟩,
        ⟨some 54, .load none false, [.t 53], none⟩,
        ⟨some 55, .call [] false, [.f 70, .t 52, .t 54], none⟩,
        ⟨none, .chk (.faddr 0), [.t 50, .t 12], none⟩,
        ⟨none, .chk (.load none false), [.t 51, .t 50], none⟩,
        ⟨some 56, .build [.i 0, .i 0] [(0, 1), (1, 1)], [.t 51, .t 55], none⟩,
        ⟨some 57, .bslice 2 true, [.t 56], none⟩,
        ⟨some 58, .append 2 true, [.t 49, .t 57], none⟩,
        ⟨some 10, .move, [.t 58], none⟩] [2, 4, 6, 7, 10, 32, 33, 34, 43, 44, 45] [2, 4, 7, 30, 38, 58, 65])))
    (.reg [] [⟨some 59, .bin .add, [.t 45, .k (.i 1)], none⟩,
      ⟨some 45, .move, [.t 59], none⟩] [2, 4, 6, 7, 10, 32, 33, 34, 43, 44, 45] [2, 4, 7, 30, 38, 58, 65]))))
def c28l0 : AC := b28l0
theorem r28l0 (call lp s) : run call lp c28l0 s = run call lp b28l0 s := rfl
def b28l1 : AC :=
 (.seq
  (.reg [] [⟨some 35, .bin .lt, [.t 34, .t 33], none⟩] [2, 4, 6, 7, 32, 33, 34, 35] [2, 4, 7, 30, 65])
  (.seq
   (.cond (.t 35)
    .skip
    (.exit 0))
   (.seq
    (.block 1
     (.seq
      (.reg [] [⟨some 36, .iaddr 1, [.t 32, .t 34], none⟩,
        ⟨some 37, .load none false, [.t 36], none⟩,
        ⟨some 9, .move, [.t 37], none⟩] [2, 4, 6, 7, 9, 32, 33, 34] [2, 4, 7, 30, 65])
      (.seq
       (.reg [] [⟨some 38, .bslice 2 true, [], none⟩,
         ⟨some 10, .move, [.t 38], none⟩] [2, 4, 6, 7, 9, 10, 32, 33, 34] [2, 4, 7, 30, 38, 58, 65])
       (.seq
        (.seq
         (.reg [] [⟨some 39, .faddr 0, [.t 2], none⟩,
           ⟨some 40, .load none false, [.t 39], none⟩,
           ⟨some 41, .move, [.t 9], none⟩,
           ⟨some 42, .iaddr 1, [.t 40, .t 41], none⟩,
           ⟨some 43, .load none false, [.t 42], none⟩,
           ⟨some 44, .len, [.t 43], none⟩,
           ⟨some 45, .move, [.k (.i 0)], none⟩] [2, 4, 6, 7, 10, 32, 33, 34, 43, 44, 45] [2, 4, 7, 30, 38, 58, 65])
         (.block 2
          (.loop [2, 4, 6, 7, 10, 32, 33, 34, 43, 44, 45] [2, 4, 7, 30, 38, 58, 65] c28l0)))
        (.reg [0, 1, 2, 3, 6, 9, 10, 11] [⟨some 60, .faddr 0, [.t 7], none⟩,
          ⟨some 61, .load none false, [.t 60], none⟩,
          ⟨some 62, .move, [.t 10], none⟩,
          ⟨some 63, .call [0] false, [.f 66, .t 62], none⟩,
          ⟨none, .chk (.faddr 0), [.t 60, .t 7], none⟩,
          ⟨none, .chk (.load none false), [.t 61, .t 60], none⟩,
          ⟨some 64, .bslice 1 true, [.t 63], none⟩,
          ⟨none, .chk (.faddr 0), [.t 60, .t 7], none⟩,
          ⟨none, .chk (.load none false), [.t 61, .t 60], none⟩,
          ⟨some 65, .append 1 true, [.t 61, .t 64], none⟩,
          ⟨some 66, .faddr 0, [.t 7], none⟩,
          ⟨none, .store 1 true, [.t 66, .t 65], none⟩] [2, 4, 6, 7, 32, 33, 34] [2, 4, 7, 30, 65])))))
    (.reg [] [⟨some 67, .bin .add, [.t 34, .k (.i 1)], none⟩,
      ⟨some 34, .move, [.t 67], none⟩] [2, 4, 6, 7, 32, 33, 34] [2, 4, 7, 30, 65]))))
def c28l1 : AC := b28l1
theorem r28l1 (call lp s) : run call lp c28l1 s = run call lp b28l1 s := rfl
/-- impl.GraphPart -/
def c28 : AC :=
 (.seq
  (.reg [] [⟨some 2, .box, [.t 0], none⟩,
    ⟨some 4, .alloc [.nils], [], none⟩,
    ⟨some 5, .move, [.k (.b false)], none⟩] [1, 2, 4] [2, 4, 65])
  (.seq
   (.seq
    (.reg [] [⟨some 13, .load (some 1) false, [.t 2], none⟩,
      ⟨some 14, .call [] false, [.f 44, .t 13], none⟩,
      ⟨some 15, .not, [.t 14], none⟩,
      ⟨some 16, .move, [.t 15], none⟩,
      ⟨some 17, .move, [.t 1], some (16, false)⟩,
      ⟨some 18, .bin .lt, [.t 17, .k (.i 0)], some (16, false)⟩,
      ⟨some 19, .pick, [.t 16, .k (.b true), .t 18], none⟩,
      ⟨some 20, .move, [.t 19], none⟩,
      ⟨some 21, .move, [.t 1], some (20, false)⟩,
      ⟨some 22, .faddr 0, [.t 2], some (20, false)⟩,
      ⟨some 23, .load none false, [.t 22], some (20, false)⟩,
      ⟨some 24, .len, [.t 23], some (20, false)⟩,
      ⟨some 25, .bin .ge, [.t 21, .t 24], some (20, false)⟩,
      ⟨some 26, .pick, [.t 20, .k (.b true), .t 25], none⟩] [1, 2, 4, 26] [2, 4, 65])
    (.cond (.t 26)
     (.seq
      (.reg [] [⟨some 27, .build [.nils] [], [], none⟩,
        ⟨none, .store 1 true, [.t 4, .t 27], none⟩,
        ⟨some 5, .move, [.k (.b false)], none⟩] [4, 5] [4, 65])
      .ret)
     .skip))
   (.seq
    (.reg [] [⟨some 28, .load (some 1) false, [.t 2], none⟩,
      ⟨some 29, .move, [.t 1], none⟩,
      ⟨some 30, .call [] false, [.f 69, .t 28, .t 29], none⟩,
      ⟨some 6, .move, [.t 30], none⟩] [2, 4, 6] [2, 4, 30, 65])
    (.seq
     (.reg [] [⟨some 31, .build [.nils] [], [], none⟩,
       ⟨some 7, .alloc [.nils], [], none⟩,
       ⟨none, .store 1 true, [.t 7, .t 31], none⟩] [2, 4, 6, 7] [2, 4, 7, 30, 65])
     (.seq
      (.seq
       (.reg [] [⟨some 32, .move, [.t 6], none⟩,
         ⟨some 33, .len, [.t 32], none⟩,
         ⟨some 34, .move, [.k (.i 0)], none⟩] [2, 4, 6, 7, 32, 33, 34] [2, 4, 7, 30, 65])
       (.block 0
        (.loop [2, 4, 6, 7, 32, 33, 34] [2, 4, 7, 30, 65] c28l1)))
      (.seq
       (.reg [] [⟨some 68, .load (some 1) false, [.t 7], none⟩,
         ⟨none, .store 1 true, [.t 4, .t 68], none⟩,
         ⟨some 5, .move, [.k (.b true)], none⟩] [4, 5] [4, 65])
       .ret))))))
def a28 : AF := ⟨c28, [.cell 4 (some 1), .tmp 5]⟩
def b6l0 : AC :=
 (.seq
  (.seq
   (.reg [] [⟨some 63, .move, [.t 12], none⟩,
     ⟨some 64, .faddr 0, [.t 5], none⟩,
     ⟨some 65, .load none false, [.t 64], none⟩,
     ⟨some 66, .move, [.t 11], none⟩,
     ⟨some 67, .iaddr 1, [.t 65, .t 66], none⟩,
     ⟨some 68, .load none false, [.t 67], none⟩,
     ⟨some 69, .len, [.t 68], none⟩,
     ⟨some 70, .bin .lt, [.t 63, .t 69], none⟩] [3, 4, 5, 9, 10, 11, 12, 70] [3, 5, 9, 24, 30, 53, 1024])
   (.cond (.t 70)
    .skip
    (.exit 2)))
  (.seq
   (.block 3
    (.seq
     (.reg [] [⟨some 74, .faddr 0, [.t 5], none⟩,
       ⟨some 75, .load none false, [.t 74], none⟩,
       ⟨some 76, .move, [.t 11], none⟩,
       ⟨some 77, .iaddr 1, [.t 75, .t 76], none⟩,
       ⟨some 78, .load none false, [.t 77], none⟩,
       ⟨some 79, .move, [.t 12], none⟩,
       ⟨some 80, .iaddr 2, [.t 78, .t 79], none⟩,
       ⟨some 81, .faddr 0, [.t 80], none⟩,
       ⟨some 82, .load none false, [.t 81], none⟩,
       ⟨some 83, .call [] false, [.f 24, .t 82], none⟩,
       ⟨some 73, .move, [.t 83], none⟩,
       ⟨some 84, .ext 0, [.t 73], none⟩,
       ⟨some 85, .ext 1, [.t 73], none⟩,
       ⟨some 13, .move, [.t 84], none⟩,
       ⟨some 14, .move, [.t 85], none⟩] [3, 4, 5, 9, 10, 11, 12, 13, 14] [3, 5, 9, 24, 30, 53, 1024])
     (.seq
      (.reg [] [⟨some 86, .move, [.t 14], none⟩,
        ⟨some 87, .move, [.t 86], none⟩,
        ⟨some 88, .move, [.t 4], some (87, true)⟩,
        ⟨some 89, .move, [.t 13], some (87, true)⟩,
        ⟨some 90, .iaddr 1, [.t 88, .t 89], some (87, true)⟩,
        ⟨some 91, .load none false, [.t 90], some (87, true)⟩,
        ⟨some 92, .pick, [.t 87, .t 91, .k (.b false)], none⟩] [3, 4, 5, 9, 10, 11, 12, 92] [3, 5, 9, 24, 30, 53, 1024])
      (.cond (.t 92)
       (.seq
        (.reg [] [⟨some 2, .move, [.k (.b false)], none⟩] [2] [])
        .ret)
       .skip))))
   (.reg [] [⟨some 71, .move, [.t 12], none⟩,
     ⟨some 72, .bin .add, [.t 71, .k (.i 1)], none⟩,
     ⟨some 12, .move, [.t 72], none⟩] [3, 4, 5, 9, 10, 11, 12] [3, 5, 9, 24, 30, 53, 1024])))
def c6l0 : AC := b6l0
theorem r6l0 (call lp s) : run call lp c6l0 s = run call lp b6l0 s := rfl
def b6l1 : AC :=
 (.seq
  (.seq
   (.reg [] [⟨some 56, .move, [.t 11], none⟩,
     ⟨some 57, .faddr 0, [.t 5], none⟩,
     ⟨some 58, .load none false, [.t 57], none⟩,
     ⟨some 59, .len, [.t 58], none⟩,
     ⟨some 60, .bin .lt, [.t 56, .t 59], none⟩] [3, 4, 5, 9, 10, 11, 60] [3, 5, 9, 24, 30, 53, 1024])
   (.cond (.t 60)
    .skip
    (.exit 0)))
  (.seq
   (.block 1
    (.seq
     (.reg [] [⟨some 12, .move, [.k (.i 0)], none⟩] [3, 4, 5, 9, 10, 11, 12] [3, 5, 9, 24, 30, 53, 1024])
     (.block 2
      (.loop [3, 4, 5, 9, 10, 11, 12] [3, 5, 9, 24, 30, 53, 1024] c6l0))))
   (.reg [] [⟨some 61, .move, [.t 11], none⟩,
     ⟨some 62, .bin .add, [.t 61, .k (.i 1)], none⟩,
     ⟨some 11, .move, [.t 62], none⟩] [3, 4, 5, 9, 10, 11] [3, 5, 9, 24, 30, 53, 1024])))
def c6l1 : AC := b6l1
theorem r6l1 (call lp s) : run call lp c6l1 s = run call lp b6l1 s := rfl
/-- laws.FnGraphVeil -/
def c6 : AC :=
 (.seq
  (.reg [] [⟨some 2, .move, [.k (.b false)], none⟩] [0] [])
  (.seq
   (.seq
    (.reg [] [⟨some 19, .move, [.t 0], none⟩,
      ⟨some 20, .len, [.t 19], none⟩,
      ⟨some 21, .bin .gt, [.t 20, .k (.i 1048576)], none⟩] [0, 21] [])
    (.cond (.t 21)
     (.seq
      (.reg [] [⟨some 2, .move, [.k (.b true)], none⟩] [2] [])
      .ret)
     .skip))
   (.seq
    (.reg [] [⟨some 23, .move, [.t 0], none⟩,
      ⟨some 24, .call [] false, [.f 25, .t 23], none⟩,
      ⟨some 22, .move, [.t 24], none⟩,
      ⟨some 25, .ext 0, [.t 22], none⟩,
      ⟨some 26, .ext 1, [.t 22], none⟩,
      ⟨some 3, .alloc [.nils], [], none⟩,
      ⟨none, .store 1 true, [.t 3, .t 25], none⟩,
      ⟨some 4, .move, [.t 26], none⟩] [3, 4] [3, 24, 1024])
    (.seq
     (.reg [] [⟨some 28, .load (some 1) false, [.t 3], none⟩,
       ⟨some 29, .move, [.t 4], none⟩,
       ⟨some 30, .call [] false, [.f 26, .t 28, .t 29], none⟩,
       ⟨some 27, .move, [.t 30], none⟩,
       ⟨some 31, .ext 0, [.t 27], none⟩,
       ⟨some 32, .ext 1, [.t 27], none⟩,
       ⟨some 5, .alloc [.nils], [], none⟩,
       ⟨none, .store 1 true, [.t 5, .t 31], none⟩,
       ⟨some 6, .move, [.t 32], none⟩] [3, 4, 5, 6] [3, 5, 24, 30, 1024])
     (.seq
      (.reg [] [⟨some 34, .load (some 1) false, [.t 3], none⟩,
        ⟨some 35, .move, [.t 4], none⟩,
        ⟨some 36, .call [] false, [.f 27, .t 34, .t 35], none⟩,
        ⟨some 33, .move, [.t 36], none⟩,
        ⟨some 37, .ext 0, [.t 33], none⟩,
        ⟨some 38, .ext 1, [.t 33], none⟩,
        ⟨some 7, .alloc [.nils], [], none⟩,
        ⟨none, .store 1 true, [.t 7, .t 37], none⟩,
        ⟨some 8, .move, [.t 38], none⟩] [3, 4, 5, 6, 7, 8] [3, 5, 7, 24, 30, 36, 1024])
      (.seq
       (.seq
        (.reg [] [⟨some 39, .load (some 1) false, [.t 5], none⟩,
          ⟨some 40, .load (some 1) false, [.t 7], none⟩,
          ⟨some 41, .call [] false, [.f 19, .t 39, .t 40], none⟩,
          ⟨some 42, .not, [.t 41], none⟩,
          ⟨some 43, .move, [.t 42], none⟩,
          ⟨some 44, .move, [.t 6], some (43, false)⟩,
          ⟨some 45, .move, [.t 8], some (43, false)⟩,
          ⟨some 46, .bne, [.t 44, .t 45], some (43, false)⟩,
          ⟨some 47, .pick, [.t 43, .k (.b true), .t 46], none⟩] [3, 4, 5, 6, 47] [3, 5, 24, 30, 1024])
        (.cond (.t 47)
         (.seq
          (.reg [] [⟨some 2, .move, [.k (.b false)], none⟩] [2] [])
          .ret)
         .skip))
       (.seq
        (.seq
         (.reg [] [⟨some 48, .move, [.t 6], none⟩,
           ⟨some 49, .not, [.t 48], none⟩] [3, 4, 5, 49] [3, 5, 24, 30, 1024])
         (.cond (.t 49)
          (.seq
           (.reg [] [⟨some 2, .move, [.k (.b true)], none⟩] [2] [])
           .ret)
          .skip))
        (.seq
         (.reg [] [⟨some 51, .load (some 1) false, [.t 5], none⟩,
           ⟨some 52, .move, [.t 4], none⟩,
           ⟨some 53, .call [] false, [.f 26, .t 51, .t 52], none⟩,
           ⟨some 50, .move, [.t 53], none⟩,
           ⟨some 54, .ext 0, [.t 50], none⟩,
           ⟨some 55, .ext 1, [.t 50], none⟩,
           ⟨some 9, .alloc [.nils], [], none⟩,
           ⟨none, .store 1 true, [.t 9, .t 54], none⟩,
           ⟨some 10, .move, [.t 55], none⟩] [3, 4, 5, 9, 10] [3, 5, 9, 24, 30, 53, 1024])
         (.seq
          (.seq
           (.reg [] [⟨some 11, .move, [.k (.i 0)], none⟩] [3, 4, 5, 9, 10, 11] [3, 5, 9, 24, 30, 53, 1024])
           (.block 0
            (.loop [3, 4, 5, 9, 10, 11] [3, 5, 9, 24, 30, 53, 1024] c6l1)))
          (.seq
           (.reg [0, 1, 3, 4, 5, 6, 7, 8, 9] [⟨some 94, .load (some 1) false, [.t 3], none⟩,
             ⟨some 95, .mkslice 1 (.b false), [.k (.i 4), .k (.i 4)], none⟩,
             ⟨none, .chk (.load (some 1) false), [.t 94, .t 3], none⟩,
             ⟨some 96, .call [] true, [.f 26, .t 94, .t 95], none⟩,
             ⟨some 93, .move, [.t 96], none⟩,
             ⟨some 97, .ext 0, [.t 93], none⟩,
             ⟨some 98, .ext 1, [.t 93], none⟩,
             ⟨some 15, .alloc [.nils], [], none⟩,
             ⟨none, .store 1 true, [.t 15, .t 97], none⟩,
             ⟨some 16, .move, [.t 98], none⟩] [3, 5, 9, 10, 15, 16] [3, 5, 9, 15, 24, 30, 53, 95, 96, 1024])
           (.seq
            (.reg [] [⟨some 100, .load (some 1) false, [.t 3], none⟩,
              ⟨some 101, .call [] false, [.f 28, .t 100, .k (.i 0)], none⟩,
              ⟨some 99, .move, [.t 101], none⟩,
              ⟨some 102, .ext 0, [.t 99], none⟩,
              ⟨some 103, .ext 1, [.t 99], none⟩,
              ⟨some 17, .alloc [.nils], [], none⟩,
              ⟨none, .store 1 true, [.t 17, .t 102], none⟩,
              ⟨some 18, .move, [.t 103], none⟩] [5, 9, 10, 15, 16, 17, 18] [5, 9, 15, 17, 24, 30, 53, 95, 96, 101, 1024])
            (.seq
             (.reg [] [⟨some 104, .move, [.t 10], none⟩,
               ⟨some 105, .move, [.t 104], none⟩,
               ⟨some 106, .load (some 1) false, [.t 9], some (105, true)⟩,
               ⟨some 107, .load (some 1) false, [.t 5], some (105, true)⟩,
               ⟨some 108, .call [] false, [.f 19, .t 106, .t 107], some (105, true)⟩,
               ⟨some 109, .pick, [.t 105, .t 108, .k (.b false)], none⟩,
               ⟨some 110, .move, [.t 109], none⟩,
               ⟨some 111, .move, [.t 16], some (110, true)⟩,
               ⟨some 112, .pick, [.t 110, .t 111, .k (.b false)], none⟩,
               ⟨some 113, .move, [.t 112], none⟩,
               ⟨some 114, .move, [.t 18], some (113, true)⟩,
               ⟨some 115, .pick, [.t 113, .t 114, .k (.b false)], none⟩,
               ⟨some 116, .move, [.t 115], none⟩,
               ⟨some 117, .load (some 1) false, [.t 15], some (116, true)⟩,
               ⟨some 118, .load (some 1) false, [.t 17], some (116, true)⟩,
               ⟨some 119, .call [] false, [.f 19, .t 117, .t 118], some (116, true)⟩,
               ⟨some 120, .pick, [.t 116, .t 119, .k (.b false)], none⟩,
               ⟨some 2, .move, [.t 120], none⟩] [2] [])
             .ret))))))))))))
def a6 : AF := ⟨c6, [.tmp 2]⟩
theorem ok36 : okF Try.prog 36 a36 = true := by kernel_rfl
theorem ok53 : okF Try.prog 53 a53 = true := by kernel_rfl
theorem ok88 : okF Try.prog 88 a88 = true := by kernel_rfl
theorem ok119 : okF Try.prog 119 a119 = true := by kernel_rfl
theorem ok107 : okF Try.prog 107 a107 = true := by kernel_rfl
theorem ok108 : okF Try.prog 108 a108 = true := by kernel_rfl
theorem ok93 : okF Try.prog 93 a93 = true := by kernel_rfl
theorem ok60 : okF Try.prog 60 a60 = true := by kernel_rfl
theorem ok76 : okF Try.prog 76 a76 = true := by kernel_rfl
theorem ok124 : okF Try.prog 124 a124 = true := by kernel_rfl
theorem ok142 : okF Try.prog 142 a142 = true := by kernel_rfl
theorem ok141 : okF Try.prog 141 a141 = true := by kernel_rfl
theorem ok121 : okF Try.prog 121 a121 = true := by kernel_rfl
theorem ok120 : okF Try.prog 120 a120 = true := by kernel_rfl
theorem ok109 : okF Try.prog 109 a109 = true := by kernel_rfl
theorem ok143 : okF Try.prog 143 a143 = true := by kernel_rfl
theorem ok144 : okF Try.prog 144 a144 = true := by kernel_rfl
theorem ok61 : okF Try.prog 61 a61 = true := by kernel_rfl
theorem ok145 : okF Try.prog 145 a145 = true := by kernel_rfl
theorem ok122 : okF Try.prog 122 a122 = true := by kernel_rfl
theorem ok123 : okF Try.prog 123 a123 = true := by kernel_rfl
theorem ok90 : okF Try.prog 90 a90 = true := by kernel_rfl
theorem ok68 : okF Try.prog 68 a68 = true := by kernel_rfl
theorem ok110 : okF Try.prog 110 a110 = true := by kernel_rfl
theorem ok94 : okF Try.prog 94 a94 = true := by kernel_rfl
theorem ok43 : okF Try.prog 43 a43 = true := by kernel_rfl
theorem ok52 : okF Try.prog 52 a52 = true := by kernel_rfl
theorem ok63 : okF Try.prog 63 a63 = true := by kernel_rfl
theorem ok25 : okF Try.prog 25 a25 = true := by kernel_rfl
theorem ok74 : okF Try.prog 74 a74 = true := by kernel_rfl
theorem ok116 : okF Try.prog 116 a116 = true := by kernel_rfl
theorem ok103 : okF Try.prog 103 a103 = true := by kernel_rfl
theorem ok89 : okF Try.prog 89 a89 = true := by kernel_rfl
theorem ok44 : okF Try.prog 44 a44 = true := by kernel_rfl
theorem ok64 : okF Try.prog 64 a64 = true := by kernel_rfl
theorem ok56 : okF Try.prog 56 a56 = true := by kernel_rfl
theorem ok58 : okF Try.prog 58 a58 = true := by kernel_rfl
theorem ok65 : okF Try.prog 65 a65 = true := by kernel_rfl
theorem ok97 : okF Try.prog 97 a97 = true := by kernel_rfl
theorem ok66 : okF Try.prog 66 a66 = true := by kernel_rfl
theorem ok69 : okF Try.prog 69 a69 = true := by kernel_rfl
theorem ok59 : okF Try.prog 59 a59 = true := by kernel_rfl
theorem ok26 : okF Try.prog 26 a26 = true := by kernel_rfl
theorem ok47 : okF Try.prog 47 a47 = true := by kernel_rfl
theorem ok67 : okF Try.prog 67 a67 = true := by kernel_rfl
theorem ok104 : okF Try.prog 104 a104 = true := by kernel_rfl
theorem ok91 : okF Try.prog 91 a91 = true := by kernel_rfl
theorem ok48 : okF Try.prog 48 a48 = true := by kernel_rfl
theorem ok27 : okF Try.prog 27 a27 = true := by kernel_rfl
theorem ok19 : okF Try.prog 19 a19 = true := by kernel_rfl
theorem ok62 : okF Try.prog 62 a62 = true := by kernel_rfl
theorem ok24 : okF Try.prog 24 a24 = true := by kernel_rfl
theorem ok70 : okF Try.prog 70 a70 = true := by kernel_rfl
theorem ok28 : okF Try.prog 28 a28 = true := by kernel_rfl
theorem ok6 : okF Try.prog 6 a6 = true := by kernel_rfl
def codes : Nat → Option AF
  | 36 => some a36
  | 53 => some a53
  | 88 => some a88
  | 119 => some a119
  | 107 => some a107
  | 108 => some a108
  | 93 => some a93
  | 60 => some a60
  | 76 => some a76
  | 124 => some a124
  | 142 => some a142
  | 141 => some a141
  | 121 => some a121
  | 120 => some a120
  | 109 => some a109
  | 143 => some a143
  | 144 => some a144
  | 61 => some a61
  | 145 => some a145
  | 122 => some a122
  | 123 => some a123
  | 90 => some a90
  | 68 => some a68
  | 110 => some a110
  | 94 => some a94
  | 43 => some a43
  | 52 => some a52
  | 63 => some a63
  | 25 => some a25
  | 74 => some a74
  | 116 => some a116
  | 103 => some a103
  | 89 => some a89
  | 44 => some a44
  | 64 => some a64
  | 56 => some a56
  | 58 => some a58
  | 65 => some a65
  | 97 => some a97
  | 66 => some a66
  | 69 => some a69
  | 59 => some a59
  | 26 => some a26
  | 47 => some a47
  | 67 => some a67
  | 104 => some a104
  | 91 => some a91
  | 48 => some a48
  | 27 => some a27
  | 19 => some a19
  | 62 => some a62
  | 24 => some a24
  | 70 => some a70
  | 28 => some a28
  | 6 => some a6
  | _ => none
def G0 : Prog := ⟨codes, fun _ => none⟩
theorem g36 : codes 36 = some a36 := rfl
theorem g53 : codes 53 = some a53 := rfl
theorem g88 : codes 88 = some a88 := rfl
theorem g119 : codes 119 = some a119 := rfl
theorem g107 : codes 107 = some a107 := rfl
theorem g108 : codes 108 = some a108 := rfl
theorem g93 : codes 93 = some a93 := rfl
theorem g60 : codes 60 = some a60 := rfl
theorem g76 : codes 76 = some a76 := rfl
theorem g124 : codes 124 = some a124 := rfl
theorem g142 : codes 142 = some a142 := rfl
theorem g141 : codes 141 = some a141 := rfl
theorem g121 : codes 121 = some a121 := rfl
theorem g120 : codes 120 = some a120 := rfl
theorem g109 : codes 109 = some a109 := rfl
theorem g143 : codes 143 = some a143 := rfl
theorem g144 : codes 144 = some a144 := rfl
theorem g61 : codes 61 = some a61 := rfl
theorem g145 : codes 145 = some a145 := rfl
theorem g122 : codes 122 = some a122 := rfl
theorem g123 : codes 123 = some a123 := rfl
theorem g90 : codes 90 = some a90 := rfl
theorem g68 : codes 68 = some a68 := rfl
theorem g110 : codes 110 = some a110 := rfl
theorem g94 : codes 94 = some a94 := rfl
theorem g43 : codes 43 = some a43 := rfl
theorem g52 : codes 52 = some a52 := rfl
theorem g63 : codes 63 = some a63 := rfl
theorem g25 : codes 25 = some a25 := rfl
theorem g74 : codes 74 = some a74 := rfl
theorem g116 : codes 116 = some a116 := rfl
theorem g103 : codes 103 = some a103 := rfl
theorem g89 : codes 89 = some a89 := rfl
theorem g44 : codes 44 = some a44 := rfl
theorem g64 : codes 64 = some a64 := rfl
theorem g56 : codes 56 = some a56 := rfl
theorem g58 : codes 58 = some a58 := rfl
theorem g65 : codes 65 = some a65 := rfl
theorem g97 : codes 97 = some a97 := rfl
theorem g66 : codes 66 = some a66 := rfl
theorem g69 : codes 69 = some a69 := rfl
theorem g59 : codes 59 = some a59 := rfl
theorem g26 : codes 26 = some a26 := rfl
theorem g47 : codes 47 = some a47 := rfl
theorem g67 : codes 67 = some a67 := rfl
theorem g104 : codes 104 = some a104 := rfl
theorem g91 : codes 91 = some a91 := rfl
theorem g48 : codes 48 = some a48 := rfl
theorem g27 : codes 27 = some a27 := rfl
theorem g19 : codes 19 = some a19 := rfl
theorem g62 : codes 62 = some a62 := rfl
theorem g24 : codes 24 = some a24 := rfl
theorem g70 : codes 70 = some a70 := rfl
theorem g28 : codes 28 = some a28 := rfl
theorem g6 : codes 6 = some a6 := rfl
theorem gp0 (n : Nat) : G0.prim n = none := rfl
theorem progOK0 : ProgOK Try.prog G0 := by
  refine ⟨by kernel_rfl, fun f af _ h => ?_, fun f p h => by cases h⟩
  simp only [G0] at h
  unfold codes at h
  split at h
  · cases h; exact ok36
  · cases h; exact ok53
  · cases h; exact ok88
  · cases h; exact ok119
  · cases h; exact ok107
  · cases h; exact ok108
  · cases h; exact ok93
  · cases h; exact ok60
  · cases h; exact ok76
  · cases h; exact ok124
  · cases h; exact ok142
  · cases h; exact ok141
  · cases h; exact ok121
  · cases h; exact ok120
  · cases h; exact ok109
  · cases h; exact ok143
  · cases h; exact ok144
  · cases h; exact ok61
  · cases h; exact ok145
  · cases h; exact ok122
  · cases h; exact ok123
  · cases h; exact ok90
  · cases h; exact ok68
  · cases h; exact ok110
  · cases h; exact ok94
  · cases h; exact ok43
  · cases h; exact ok52
  · cases h; exact ok63
  · cases h; exact ok25
  · cases h; exact ok74
  · cases h; exact ok116
  · cases h; exact ok103
  · cases h; exact ok89
  · cases h; exact ok44
  · cases h; exact ok64
  · cases h; exact ok56
  · cases h; exact ok58
  · cases h; exact ok65
  · cases h; exact ok97
  · cases h; exact ok66
  · cases h; exact ok69
  · cases h; exact ok59
  · cases h; exact ok26
  · cases h; exact ok47
  · cases h; exact ok67
  · cases h; exact ok104
  · cases h; exact ok91
  · cases h; exact ok48
  · cases h; exact ok27
  · cases h; exact ok19
  · cases h; exact ok62
  · cases h; exact ok24
  · cases h; exact ok70
  · cases h; exact ok28
  · cases h; exact ok6
  · cases h
end Go.Am
end
