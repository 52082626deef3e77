/- The annotated code of the functions that the law reaches. -/
import Derived.Test.YtmpbcedglimhkaaAnC
import Derived.Test.YtmpbcedglimhkaaProg
import Derived.KernelRfl
section
set_option maxRecDepth 100000
namespace Go.Am
open Go.Proofs
/-- spec.l6Open -/
def c36 : AC :=
 (.seq
  (.reg [] [⟨some 2, .move, [.k (.sc (.pointer none))], none⟩] [0] [7])
  (.seq
   (.seq
    (.reg [] [⟨some 3, .move, [.t 0], none⟩,
      ⟨some 4, .len, [.t 3], none⟩,
      ⟨some 5, .bin .gt, [.t 4, .k (.i 2000)], none⟩] [0, 5] [7])
    (.cond (.t 5)
     (.reg [] [⟨some 6, .move, [.t 0], none⟩,
       ⟨some 7, .slice 1 false true, [.t 6, .k (.i 2000)], none⟩,
       ⟨some 0, .move, [.t 7], none⟩] [0] [7])
     .skip))
   (.seq
    (.reg [] [⟨some 8, .move, [.t 0], none⟩,
      ⟨some 9, .build [.nils, .i 0] [(0, 1)], [.t 8], none⟩,
      ⟨some 10, .box, [.t 9], none⟩,
      ⟨some 2, .move, [.t 10], none⟩] [2] [7, 10])
    .ret)))
def a36 : AF := ⟨c36, [.tmp 2]⟩
/-- spec.l6Rd).pick -/
def c53 : AC :=
 (.seq
  (.reg [] [⟨some 4, .move, [.k (.i 0)], none⟩] [0, 1] [])
  (.seq
   (.reg [] [⟨some 7, .move, [.t 0], none⟩,
     ⟨some 8, .move, [.t 0], none⟩,
     ⟨some 9, .nck, [.t 8], none⟩,
     ⟨some 10, .faddr 1, [.t 9], none⟩,
     ⟨some 11, .load none false, [.t 10], none⟩,
     ⟨some 12, .bin .add, [.t 11, .k (.i 1)], none⟩,
     ⟨some 13, .nck, [.t 7], none⟩,
     ⟨some 14, .faddr 1, [.t 13], none⟩,
     ⟨none, .store 1 true, [.t 14, .t 12], none⟩] [0, 1] [])
   (.seq
    (.seq
     (.reg [] [⟨some 15, .move, [.t 1], none⟩,
       ⟨some 16, .bin .lt, [.t 15, .k (.i 1)], none⟩,
       ⟨some 17, .move, [.t 16], none⟩,
       ⟨some 18, .move, [.t 0], some (17, false)⟩,
       ⟨some 19, .nck, [.t 18], some (17, false)⟩,
       ⟨some 20, .faddr 0, [.t 19], some (17, false)⟩,
       ⟨some 21, .load none false, [.t 20], some (17, false)⟩,
       ⟨some 22, .len, [.t 21], some (17, false)⟩,
       ⟨some 23, .bin .eq, [.t 22, .k (.i 0)], some (17, false)⟩,
       ⟨some 24, .pick, [.t 17, .k (.b true), .t 23], none⟩] [0, 1, 24] [])
     (.cond (.t 24)
      (.seq
       (.reg [] [⟨some 4, .move, [.k (.i 0)], none⟩] [4] [])
       .ret)
      .skip))
    (.seq
     (.reg [] [⟨some 25, .move, [.t 0], none⟩,
       ⟨some 26, .nck, [.t 25], none⟩,
       ⟨some 27, .faddr 1, [.t 26], none⟩,
       ⟨some 28, .load none false, [.t 27], none⟩,
       ⟨some 29, .bin .sub, [.t 28, .k (.i 1)], none⟩,
       ⟨some 5, .move, [.t 29], none⟩] [0, 1, 5] [])
     (.seq
      (.seq
       (.reg [] [⟨some 30, .move, [.t 5], none⟩,
         ⟨some 31, .move, [.t 0], none⟩,
         ⟨some 32, .nck, [.t 31], none⟩,
         ⟨some 33, .faddr 0, [.t 32], none⟩,
         ⟨some 34, .load none false, [.t 33], none⟩,
         ⟨some 35, .len, [.t 34], none⟩,
         ⟨some 36, .bin .lt, [.t 30, .t 35], none⟩] [0, 1, 5, 36] [])
       (.cond (.t 36)
        (.seq
         (.reg [] [⟨some 37, .move, [.t 0], none⟩,
           ⟨some 38, .nck, [.t 37], none⟩,
           ⟨some 39, .faddr 0, [.t 38], none⟩,
           ⟨some 40, .load none false, [.t 39], none⟩,
           ⟨some 41, .move, [.t 5], none⟩,
           ⟨some 42, .iaddr 1, [.t 40, .t 41], none⟩,
           ⟨some 43, .load none false, [.t 42], none⟩,
           ⟨some 44, .conv .i64, [.t 43], none⟩,
           ⟨some 45, .move, [.t 1], none⟩,
           ⟨some 46, .bin .rem, [.t 44, .t 45], none⟩,
           ⟨some 4, .move, [.t 46], none⟩] [4] [])
         .ret)
        .skip))
      (.seq
       (.reg [0, 1, 2, 3, 4, 5, 6, 7, 8, 9, 10, 11, 12, 13, 14, 15, 16, 17, 18, 19, 20, 21, 22, 23, 24, 25, 26, 27, 28, 29, 30, 31, 32, 33, 34, 35, 36, 37, 38, 39, 40, 41, 42, 43, 44, 45] [⟨some 47, .move, [.t 0], none⟩,
         ⟨some 48, .nck, [.t 47], none⟩,
         ⟨some 49, .faddr 0, [.t 48], none⟩,
         ⟨some 50, .load none false, [.t 49], none⟩,
         ⟨some 51, .move, [.t 5], none⟩,
         ⟨some 52, .move, [.t 0], none⟩,
         ⟨some 53, .nck, [.t 52], none⟩,
         ⟨some 54, .faddr 0, [.t 53], none⟩,
         ⟨some 55, .load none false, [.t 54], none⟩,
         ⟨some 56, .len, [.t 55], none⟩,
         ⟨some 57, .bin .rem, [.t 51, .t 56], none⟩,
         ⟨some 58, .iaddr 1, [.t 50, .t 57], none⟩,
         ⟨some 59, .load none false, [.t 58], none⟩,
         ⟨some 60, .conv .i64, [.t 59], none⟩,
         ⟨some 61, .bin .mul, [.t 60, .k (.i 131)], none⟩,
         ⟨some 62, .move, [.t 0], none⟩,
         ⟨some 63, .nck, [.t 62], none⟩,
         ⟨some 64, .faddr 0, [.t 63], none⟩,
         ⟨some 65, .load none false, [.t 64], none⟩,
         ⟨some 66, .move, [.t 5], none⟩,
         ⟨some 67, .bin .mul, [.t 66, .k (.i 7)], none⟩,
         ⟨some 68, .bin .add, [.t 67, .k (.i 3)], none⟩,
         ⟨some 69, .move, [.t 0], none⟩,
         ⟨some 70, .nck, [.t 69], none⟩,
         ⟨some 71, .faddr 0, [.t 70], none⟩,
         ⟨some 72, .load none false, [.t 71], none⟩,
         ⟨some 73, .len, [.t 72], none⟩,
         ⟨some 74, .bin .rem, [.t 68, .t 73], none⟩,
         ⟨some 75, .iaddr 1, [.t 65, .t 74], none⟩,
         ⟨some 76, .load none false, [.t 75], none⟩,
         ⟨some 77, .conv .i64, [.t 76], none⟩,
         ⟨some 78, .bin .mul, [.t 77, .k (.i 1117)], none⟩,
         ⟨some 79, .bin .add, [.t 61, .t 78], none⟩,
         ⟨some 80, .move, [.t 5], none⟩,
         ⟨some 81, .bin .mul, [.t 80, .k (.i 29)], none⟩,
         ⟨some 82, .bin .add, [.t 79, .t 81], none⟩,
         ⟨some 83, .move, [.t 5], none⟩,
         ⟨some 84, .move, [.t 0], none⟩,
         ⟨some 85, .nck, [.t 84], none⟩,
         ⟨some 86, .faddr 0, [.t 85], none⟩,
         ⟨some 87, .load none false, [.t 86], none⟩,
         ⟨some 88, .len, [.t 87], none⟩,
         ⟨some 89, .bin .quo, [.t 83, .t 88], none⟩,
         ⟨some 90, .bin .mul, [.t 89, .k (.i 53)], none⟩,
         ⟨some 91, .bin .add, [.t 82, .t 90], none⟩,
         ⟨some 6, .move, [.t 91], none⟩] [1, 6] [])
       (.seq
        (.reg [] [⟨some 92, .move, [.t 6], none⟩,
          ⟨some 93, .move, [.t 6], none⟩,
          ⟨some 94, .bin .quo, [.t 93, .k (.i 64)], none⟩,
          ⟨some 95, .bin .xor, [.t 92, .t 94], none⟩,
          ⟨some 6, .move, [.t 95], none⟩] [1, 6] [])
        (.seq
         (.reg [] [⟨some 96, .move, [.t 6], none⟩,
           ⟨some 97, .move, [.t 1], none⟩,
           ⟨some 98, .bin .rem, [.t 96, .t 97], none⟩,
           ⟨some 4, .move, [.t 98], none⟩] [4] [])
         .ret))))))))
def a53 : AF := ⟨c53, [.tmp 4]⟩
/-- spec.l92Name -/
def c100 : AC :=
 (.seq
  (.reg [] [⟨some 2, .move, [.k (.i 0)], none⟩] [0] [])
  (.seq
   (.seq
    (.reg [] [⟨some 3, .move, [.t 0], none⟩,
      ⟨some 4, .call [] false, [.f 53, .t 3, .k (.i 60)], none⟩,
      ⟨some 5, .bin .eq, [.t 4, .k (.i 0)], none⟩] [0, 5] [])
    (.cond (.t 5)
     (.seq
      (.reg [] [⟨some 6, .bslice 1 true, [.k (.i (-1)), .k (.i 30), .k (.i 4611686018427387904)], none⟩,
        ⟨some 7, .move, [.t 0], none⟩,
        ⟨some 8, .call [] false, [.f 53, .t 7, .k (.i 3)], none⟩,
        ⟨some 9, .iaddr 1, [.t 6, .t 8], none⟩,
        ⟨some 10, .load none false, [.t 9], none⟩,
        ⟨some 2, .move, [.t 10], none⟩] [2] [])
      .ret)
     .skip))
   (.seq
    (.seq
     (.reg [] [⟨some 11, .move, [.t 0], none⟩,
       ⟨some 12, .call [] false, [.f 53, .t 11, .k (.i 25)], none⟩,
       ⟨some 13, .bin .eq, [.t 12, .k (.i 0)], none⟩] [0, 13] [])
     (.cond (.t 13)
      (.seq
       (.reg [] [⟨some 14, .move, [.t 0], none⟩,
         ⟨some 15, .call [] false, [.f 53, .t 14, .k (.i 30)], none⟩,
         ⟨some 2, .move, [.t 15], none⟩] [2] [])
       .ret)
      .skip))
    (.seq
     (.reg [] [⟨some 16, .move, [.t 0], none⟩,
       ⟨some 17, .call [] false, [.f 53, .t 16, .k (.i 4)], none⟩,
       ⟨some 2, .move, [.t 17], none⟩] [2] [])
     .ret))))
def a100 : AF := ⟨c100, [.tmp 2]⟩
/-- spec.l92Mobile -/
def c78 : AC :=
 (.seq
  (.reg [] [⟨some 4, .alloc [.i 0, .i 0, .i 0, .nils], [], none⟩] [0, 1, 4] [4, 34, 49, 58, 72, 86, 101, 113])
  (.seq
   (.seq
    (.reg [] [⟨some 16, .move, [.t 1], none⟩,
      ⟨some 17, .bin .eq, [.t 16, .k (.i 0)], none⟩] [0, 1, 4, 17] [4, 34, 49, 58, 72, 86, 101, 113])
    (.cond (.t 17)
     (.seq
      (.reg [] [⟨some 18, .build [.i 0, .i 0, .i 0, .nils] [], [], none⟩,
        ⟨none, .store 4 true, [.t 4, .t 18], none⟩] [4] [4, 34, 49, 58, 72, 86, 101, 113])
      .ret)
     .skip))
   (.seq
    (.reg [] [⟨some 19, .move, [.t 0], none⟩,
      ⟨some 20, .call [] false, [.f 53, .t 19, .k (.i 12)], none⟩,
      ⟨some 5, .move, [.t 20], none⟩] [0, 1, 4, 5] [4, 34, 49, 58, 72, 86, 101, 113])
    (.seq
     (.block 0
      (.seq
       (.reg [] [⟨some 22, .move, [.t 5], none⟩,
         ⟨some 23, .bin .lt, [.t 22, .k (.i 3)], none⟩,
         ⟨some 21, .move, [.t 23], none⟩] [0, 1, 4, 5, 21] [4, 34, 49, 58, 72, 86, 101, 113])
       (.cond (.t 21)
        (.seq
         (.reg [] [⟨some 24, .move, [.t 0], none⟩,
           ⟨some 25, .call [] false, [.f 100, .t 24], none⟩,
           ⟨some 26, .move, [.t 0], none⟩,
           ⟨some 27, .call [] false, [.f 100, .t 26], none⟩,
           ⟨some 6, .move, [.t 25], none⟩,
           ⟨some 7, .move, [.t 27], none⟩] [0, 1, 4, 6, 7] [4, 34, 49, 58, 72, 86, 101, 113])
         (.seq
          (.reg [] [⟨some 28, .move, [.t 6], none⟩,
            ⟨some 29, .move, [.t 7], none⟩,
            ⟨some 30, .move, [.t 0], none⟩,
            ⟨some 31, .move, [.t 1], none⟩,
            ⟨some 32, .bin .sub, [.t 31, .k (.i 1)], none⟩,
            ⟨some 33, .call [] false, [.f 78, .t 30, .t 32], none⟩,
            ⟨some 34, .bslice 4 true, [.t 33], none⟩,
            ⟨some 35, .build [.i 0, .i 0, .i 0, .nils] [(0, 1), (1, 1), (2, 1), (3, 1)], [.k (.i 1), .t 28, .t 29, .t 34], none⟩,
            ⟨none, .store 4 true, [.t 4, .t 35], none⟩] [4] [4, 34, 49, 58, 72, 86, 101, 113])
          .ret))
        (.seq
         (.reg [] [⟨some 37, .move, [.t 5], none⟩,
           ⟨some 38, .bin .lt, [.t 37, .k (.i 6)], none⟩,
           ⟨some 36, .move, [.t 38], none⟩] [0, 1, 4, 5, 36] [4, 34, 49, 58, 72, 86, 101, 113])
         (.cond (.t 36)
          (.seq
           (.reg [] [⟨some 39, .move, [.t 0], none⟩,
             ⟨some 40, .call [] false, [.f 100, .t 39], none⟩,
             ⟨some 41, .move, [.t 0], none⟩,
             ⟨some 42, .call [] false, [.f 100, .t 41], none⟩,
             ⟨some 8, .move, [.t 40], none⟩,
             ⟨some 9, .move, [.t 42], none⟩] [0, 1, 4, 8, 9] [4, 34, 49, 58, 72, 86, 101, 113])
           (.seq
            (.reg [] [⟨some 43, .move, [.t 8], none⟩,
              ⟨some 44, .move, [.t 9], none⟩,
              ⟨some 45, .move, [.t 0], none⟩,
              ⟨some 46, .move, [.t 1], none⟩,
              ⟨some 47, .bin .sub, [.t 46, .k (.i 1)], none⟩,
              ⟨some 48, .call [] false, [.f 78, .t 45, .t 47], none⟩,
              ⟨some 49, .bslice 4 true, [.t 48], none⟩,
              ⟨some 50, .build [.i 0, .i 0, .i 0, .nils] [(0, 1), (1, 1), (2, 1), (3, 1)], [.k (.i 2), .t 43, .t 44, .t 49], none⟩,
              ⟨none, .store 4 true, [.t 4, .t 50], none⟩] [4] [4, 34, 49, 58, 72, 86, 101, 113])
            .ret))
          (.seq
           (.reg [] [⟨some 52, .move, [.t 5], none⟩,
             ⟨some 53, .bin .eq, [.t 52, .k (.i 6)], none⟩,
             ⟨some 51, .move, [.t 53], none⟩] [0, 1, 4, 5, 51] [4, 34, 49, 58, 72, 86, 101, 113])
           (.cond (.t 51)
            (.seq
             (.reg [] [⟨some 54, .move, [.t 0], none⟩,
               ⟨some 55, .move, [.t 1], none⟩,
               ⟨some 56, .bin .sub, [.t 55, .k (.i 1)], none⟩,
               ⟨some 57, .call [] false, [.f 78, .t 54, .t 56], none⟩,
               ⟨some 58, .bslice 4 true, [.t 57], none⟩,
               ⟨some 59, .build [.i 0, .i 0, .i 0, .nils] [(0, 1), (3, 1)], [.k (.i 3), .t 58], none⟩,
               ⟨none, .store 4 true, [.t 4, .t 59], none⟩] [4] [4, 34, 49, 58, 72, 86, 101, 113])
             .ret)
            (.seq
             (.reg [] [⟨some 61, .move, [.t 5], none⟩,
               ⟨some 62, .bin .eq, [.t 61, .k (.i 7)], none⟩,
               ⟨some 60, .move, [.t 62], none⟩] [0, 1, 4, 5, 60] [4, 34, 49, 58, 72, 86, 101, 113])
             (.cond (.t 60)
              (.seq
               (.reg [] [⟨some 63, .move, [.t 0], none⟩,
                 ⟨some 64, .move, [.t 1], none⟩,
                 ⟨some 65, .bin .sub, [.t 64, .k (.i 1)], none⟩,
                 ⟨some 66, .call [] false, [.f 78, .t 63, .t 65], none⟩,
                 ⟨some 10, .alloc [.i 0, .i 0, .i 0, .nils], [], none⟩,
                 ⟨none, .store 4 true, [.t 10, .t 66], none⟩] [0, 1, 4, 10] [4, 10, 34, 49, 58, 66, 72, 86, 101, 113])
               (.seq
                (.reg [0, 1, 2, 3, 4, 6, 7, 8] [⟨some 67, .load (some 4) false, [.t 10], none⟩,
                  ⟨some 68, .move, [.t 0], none⟩,
                  ⟨some 69, .move, [.t 1], none⟩,
                  ⟨some 70, .bin .sub, [.t 69, .k (.i 1)], none⟩,
                  ⟨some 71, .call [] false, [.f 78, .t 68, .t 70], none⟩,
                  ⟨none, .chk (.load (some 4) false), [.t 67, .t 10], none⟩,
                  ⟨some 72, .bslice 4 true, [.t 67, .t 71], none⟩,
                  ⟨some 73, .build [.i 0, .i 0, .i 0, .nils] [(0, 1), (3, 1)], [.k (.i 4), .t 72], none⟩,
                  ⟨none, .store 4 true, [.t 4, .t 73], none⟩] [4] [4, 34, 49, 58, 72, 86, 101, 113])
                .ret))
              (.seq
               (.reg [] [⟨some 75, .move, [.t 5], none⟩,
                 ⟨some 76, .bin .lt, [.t 75, .k (.i 10)], none⟩,
                 ⟨some 74, .move, [.t 76], none⟩] [0, 1, 4, 5, 74] [4, 34, 49, 58, 72, 86, 101, 113])
               (.cond (.t 74)
                (.seq
                 (.reg [] [⟨some 77, .move, [.t 0], none⟩,
                   ⟨some 78, .move, [.t 1], none⟩,
                   ⟨some 79, .bin .sub, [.t 78, .k (.i 1)], none⟩,
                   ⟨some 80, .call [] false, [.f 78, .t 77, .t 79], none⟩,
                   ⟨some 11, .alloc [.i 0, .i 0, .i 0, .nils], [], none⟩,
                   ⟨none, .store 4 true, [.t 11, .t 80], none⟩] [0, 1, 4, 11] [4, 11, 34, 49, 58, 72, 80, 86, 101, 113])
                 (.seq
                  (.reg [0, 1, 2, 3, 4, 6, 7, 8] [⟨some 81, .load (some 4) false, [.t 11], none⟩,
                    ⟨some 82, .move, [.t 0], none⟩,
                    ⟨some 83, .move, [.t 1], none⟩,
                    ⟨some 84, .bin .sub, [.t 83, .k (.i 1)], none⟩,
                    ⟨some 85, .call [] false, [.f 78, .t 82, .t 84], none⟩,
                    ⟨none, .chk (.load (some 4) false), [.t 81, .t 11], none⟩,
                    ⟨some 86, .bslice 4 true, [.t 81, .t 85], none⟩,
                    ⟨some 87, .build [.i 0, .i 0, .i 0, .nils] [(0, 1), (3, 1)], [.k (.i 5), .t 86], none⟩,
                    ⟨none, .store 4 true, [.t 4, .t 87], none⟩] [4] [4, 34, 49, 58, 72, 86, 101, 113])
                  .ret))
                (.seq
                 (.reg [] [⟨some 89, .move, [.t 5], none⟩,
                   ⟨some 90, .bin .eq, [.t 89, .k (.i 10)], none⟩,
                   ⟨some 88, .move, [.t 90], none⟩] [0, 1, 4, 88] [4, 34, 49, 58, 72, 86, 101, 113])
                 (.cond (.t 88)
                  (.seq
                   (.reg [] [⟨some 91, .move, [.t 0], none⟩,
                     ⟨some 92, .call [] false, [.f 100, .t 91], none⟩,
                     ⟨some 93, .move, [.t 0], none⟩,
                     ⟨some 94, .call [] false, [.f 53, .t 93, .k (.i 3)], none⟩,
                     ⟨some 12, .move, [.t 92], none⟩,
                     ⟨some 13, .move, [.t 94], none⟩] [0, 1, 4, 12, 13] [4, 34, 49, 58, 72, 86, 101, 113])
                   (.seq
                    (.reg [] [⟨some 95, .move, [.t 12], none⟩,
                      ⟨some 96, .move, [.t 13], none⟩,
                      ⟨some 97, .move, [.t 0], none⟩,
                      ⟨some 98, .move, [.t 1], none⟩,
                      ⟨some 99, .bin .sub, [.t 98, .k (.i 1)], none⟩,
                      ⟨some 100, .call [] false, [.f 78, .t 97, .t 99], none⟩,
                      ⟨some 101, .bslice 4 true, [.t 100], none⟩,
                      ⟨some 102, .build [.i 0, .i 0, .i 0, .nils] [(0, 1), (1, 1), (2, 1), (3, 1)], [.k (.i 6), .t 95, .t 96, .t 101], none⟩,
                      ⟨none, .store 4 true, [.t 4, .t 102], none⟩] [4] [4, 34, 49, 58, 72, 86, 101, 113])
                    .ret))
                  .skip)))))))))))))
     (.seq
      (.reg [] [⟨some 103, .move, [.t 0], none⟩,
        ⟨some 104, .call [] false, [.f 100, .t 103], none⟩,
        ⟨some 105, .move, [.t 0], none⟩,
        ⟨some 106, .call [] false, [.f 100, .t 105], none⟩,
        ⟨some 14, .move, [.t 104], none⟩,
        ⟨some 15, .move, [.t 106], none⟩] [0, 1, 4, 14, 15] [4, 34, 49, 58, 72, 86, 101, 113])
      (.seq
       (.reg [] [⟨some 107, .move, [.t 14], none⟩,
         ⟨some 108, .move, [.t 15], none⟩,
         ⟨some 109, .move, [.t 0], none⟩,
         ⟨some 110, .move, [.t 1], none⟩,
         ⟨some 111, .bin .sub, [.t 110, .k (.i 1)], none⟩,
         ⟨some 112, .call [] false, [.f 78, .t 109, .t 111], none⟩,
         ⟨some 113, .bslice 4 true, [.t 112], none⟩,
         ⟨some 114, .build [.i 0, .i 0, .i 0, .nils] [(0, 1), (1, 1), (2, 1), (3, 1)], [.k (.i 7), .t 107, .t 108, .t 113], none⟩,
         ⟨none, .store 4 true, [.t 4, .t 114], none⟩] [4] [4, 34, 49, 58, 72, 86, 101, 113])
       .ret))))))
def a78 : AF := ⟨c78, [.cell 4 (some 4)]⟩
/-- spec.l92Meet -/
def c79 : AC :=
 (.seq
  (.reg [] [⟨some 2, .alloc [.i 0, .i 0, .i 0, .nils], [], none⟩] [0, 2] [2, 55, 59])
  (.seq
   (.reg [] [⟨some 8, .move, [.t 0], none⟩,
     ⟨some 9, .call [] false, [.f 53, .t 8, .k (.i 3)], none⟩,
     ⟨some 10, .move, [.t 0], none⟩,
     ⟨some 11, .call [] false, [.f 53, .t 10, .k (.i 5)], none⟩,
     ⟨some 12, .move, [.t 0], none⟩,
     ⟨some 13, .call [] false, [.f 53, .t 12, .k (.i 5)], none⟩,
     ⟨some 3, .move, [.t 9], none⟩,
     ⟨some 4, .move, [.t 11], none⟩,
     ⟨some 5, .move, [.t 13], none⟩] [0, 2, 3, 4, 5] [2, 55, 59])
   (.seq
    (.reg [] [⟨some 14, .move, [.t 3], none⟩,
      ⟨some 15, .move, [.t 4], none⟩,
      ⟨some 16, .move, [.t 0], none⟩,
      ⟨some 17, .move, [.t 0], none⟩,
      ⟨some 18, .call [] false, [.f 53, .t 17, .k (.i 2)], none⟩,
      ⟨some 19, .bin .add, [.k (.i 1), .t 18], none⟩,
      ⟨some 20, .call [] false, [.f 78, .t 16, .t 19], none⟩,
      ⟨some 21, .bslice 4 true, [.t 20], none⟩,
      ⟨some 22, .build [.i 0, .i 0, .i 0, .nils] [(0, 1), (1, 1), (2, 1), (3, 1)], [.k (.i 1), .t 14, .t 15, .t 21], none⟩,
      ⟨some 6, .alloc [.i 0, .i 0, .i 0, .nils], [], none⟩,
      ⟨none, .store 4 true, [.t 6, .t 22], none⟩] [0, 2, 3, 4, 5, 6] [2, 6, 21, 40, 55, 59])
    (.seq
     (.reg [] [⟨some 23, .move, [.t 3], none⟩,
       ⟨some 24, .move, [.t 5], none⟩,
       ⟨some 25, .move, [.t 0], none⟩,
       ⟨some 26, .move, [.t 0], none⟩,
       ⟨some 27, .call [] false, [.f 53, .t 26, .k (.i 2)], none⟩,
       ⟨some 28, .bin .add, [.k (.i 1), .t 27], none⟩,
       ⟨some 29, .call [] false, [.f 78, .t 25, .t 28], none⟩,
       ⟨some 30, .bslice 4 true, [.t 29], none⟩,
       ⟨some 31, .build [.i 0, .i 0, .i 0, .nils] [(0, 1), (1, 1), (2, 1), (3, 1)], [.k (.i 2), .t 23, .t 24, .t 30], none⟩,
       ⟨some 7, .alloc [.i 0, .i 0, .i 0, .nils], [], none⟩,
       ⟨none, .store 4 true, [.t 7, .t 31], none⟩] [0, 2, 4, 6, 7] [2, 6, 7, 21, 30, 40, 48, 55, 59])
     (.seq
      (.seq
       (.reg [] [⟨some 32, .move, [.t 0], none⟩,
         ⟨some 33, .call [] false, [.f 53, .t 32, .k (.i 4)], none⟩] [0, 2, 4, 6, 7, 33] [2, 6, 7, 21, 30, 40, 48, 55, 59])
       (.block 0
        (.seq
         (.reg [] [⟨some 35, .bin .eq, [.t 33, .k (.i 0)], none⟩,
           ⟨some 34, .move, [.t 35], none⟩] [0, 2, 4, 6, 7, 33, 34] [2, 6, 7, 21, 30, 40, 48, 55, 59])
         (.cond (.t 34)
          (.alt 2 4 3
           (.reg [0, 1, 3, 2, 5, 6, 7] [⟨some 36, .move, [.t 4], none⟩,
             ⟨some 37, .move, [.t 0], none⟩,
             ⟨some 39, .load (some 4) false, [.t 6], none⟩,
             ⟨some 38, .call [] false, [.f 53, .t 37, .k (.i 3)], none⟩,
             ⟨none, .chk (.load (some 4) false), [.t 39, .t 6], none⟩,
             ⟨some 40, .bslice 4 true, [.t 39], none⟩,
             ⟨some 41, .build [.i 0, .i 0, .i 0, .nils] [(0, 1), (1, 1), (2, 1), (3, 1)], [.k (.i 6), .t 36, .t 38, .t 40], none⟩,
             ⟨none, .store 4 true, [.t 6, .t 41], none⟩] [0, 2, 6, 7] [2, 6, 7, 21, 30, 40, 48, 55, 59])
           (.reg [0, 1, 4, 2, 3, 5, 6] [⟨some 36, .move, [.t 4], none⟩,
             ⟨some 37, .move, [.t 0], none⟩,
             ⟨some 39, .load (some 4) false, [.t 6], none⟩,
             ⟨some 40, .bslice 4 true, [.t 39], none⟩,
             ⟨some 38, .call [] false, [.f 53, .t 37, .k (.i 3)], none⟩,
             ⟨some 41, .build [.i 0, .i 0, .i 0, .nils] [(0, 1), (1, 1), (2, 1), (3, 1)], [.k (.i 6), .t 36, .t 38, .t 40], none⟩,
             ⟨none, .store 4 true, [.t 6, .t 41], none⟩] [0, 2, 6, 7] [2, 6, 7, 21, 30, 40, 48, 55, 59]))
          (.seq
           (.reg [] [⟨some 43, .bin .eq, [.t 33, .k (.i 1)], none⟩,
             ⟨some 42, .move, [.t 43], none⟩] [0, 2, 6, 7, 42] [2, 6, 7, 21, 30, 40, 48, 55, 59])
           (.cond (.t 42)
            (.reg [] [⟨some 44, .load (some 4) false, [.t 7], none⟩,
              ⟨some 45, .build [.i 0, .i 0, .i 0, .nils] [], [], none⟩,
              ⟨some 46, .bslice 4 true, [.t 45], none⟩,
              ⟨some 47, .build [.i 0, .i 0, .i 0, .nils] [(0, 1), (3, 1)], [.k (.i 3), .t 46], none⟩,
              ⟨some 48, .bslice 4 true, [.t 44, .t 47], none⟩,
              ⟨some 49, .build [.i 0, .i 0, .i 0, .nils] [(0, 1), (3, 1)], [.k (.i 4), .t 48], none⟩,
              ⟨none, .store 4 true, [.t 7, .t 49], none⟩] [0, 2, 6, 7] [2, 6, 7, 21, 30, 40, 48, 55, 59])
            .skip))))))
      (.seq
       (.seq
        (.reg [] [⟨some 50, .move, [.t 0], none⟩,
          ⟨some 51, .call [] false, [.f 53, .t 50, .k (.i 2)], none⟩,
          ⟨some 52, .bin .eq, [.t 51, .k (.i 0)], none⟩] [2, 6, 7, 52] [2, 6, 7, 21, 30, 40, 48, 55, 59])
        (.cond (.t 52)
         (.seq
          (.reg [] [⟨some 53, .load (some 4) false, [.t 6], none⟩,
            ⟨some 54, .load (some 4) false, [.t 7], none⟩,
            ⟨some 55, .bslice 4 true, [.t 53, .t 54], none⟩,
            ⟨some 56, .build [.i 0, .i 0, .i 0, .nils] [(0, 1), (3, 1)], [.k (.i 5), .t 55], none⟩,
            ⟨none, .store 4 true, [.t 2, .t 56], none⟩] [2] [2, 55, 59])
          .ret)
         .skip))
       (.seq
        (.reg [] [⟨some 57, .load (some 4) false, [.t 7], none⟩,
          ⟨some 58, .load (some 4) false, [.t 6], none⟩,
          ⟨some 59, .bslice 4 true, [.t 57, .t 58], none⟩,
          ⟨some 60, .build [.i 0, .i 0, .i 0, .nils] [(0, 1), (3, 1)], [.k (.i 5), .t 59], none⟩,
          ⟨none, .store 4 true, [.t 2, .t 60], none⟩] [2] [2, 55, 59])
        .ret)))))))
def a79 : AF := ⟨c79, [.cell 2 (some 4)]⟩
/-- spec.l92Pi -/
def c37 : AC :=
 (.seq
  (.reg [] [⟨some 2, .alloc [.i 0, .i 0, .i 0, .nils], [], none⟩] [0, 2] [2, 8, 13])
  (.seq
   (.reg [] [⟨some 4, .move, [.t 0], none⟩,
     ⟨some 5, .move, [.t 0], none⟩,
     ⟨some 6, .call [] false, [.f 53, .t 5, .k (.i 4)], none⟩,
     ⟨some 7, .bin .add, [.k (.i 1), .t 6], none⟩,
     ⟨some 8, .call [] false, [.f 78, .t 4, .t 7], none⟩,
     ⟨some 3, .alloc [.i 0, .i 0, .i 0, .nils], [], none⟩,
     ⟨none, .store 4 true, [.t 3, .t 8], none⟩] [0, 2, 3] [2, 3, 8, 13])
   (.seq
    (.seq
     (.reg [] [⟨some 9, .move, [.t 0], none⟩,
       ⟨some 10, .call [] false, [.f 53, .t 9, .k (.i 2)], none⟩,
       ⟨some 11, .bin .eq, [.t 10, .k (.i 0)], none⟩] [0, 2, 3, 11] [2, 3, 8, 13])
     (.cond (.t 11)
      (.reg [] [⟨some 12, .move, [.t 0], none⟩,
        ⟨some 13, .call [] false, [.f 79, .t 12], none⟩,
        ⟨none, .store 4 true, [.t 3, .t 13], none⟩] [0, 2, 3] [2, 3, 8, 13])
      .skip))
    (.seq
     (.seq
      (.reg [] [⟨some 14, .move, [.t 0], none⟩,
        ⟨some 15, .call [] false, [.f 53, .t 14, .k (.i 30)], none⟩,
        ⟨some 16, .bin .eq, [.t 15, .k (.i 0)], none⟩] [0, 2, 3, 16] [2, 3, 8, 13])
      (.cond (.t 16)
       (.reg [] [⟨some 17, .move, [.t 0], none⟩,
         ⟨some 18, .call [] false, [.f 53, .t 17, .k (.i 10)], none⟩,
         ⟨some 19, .faddr 0, [.t 3], none⟩,
         ⟨none, .store 1 true, [.t 19, .t 18], none⟩] [2, 3] [2, 3, 8, 13])
       .skip))
     (.seq
      (.reg [] [⟨some 20, .load (some 4) false, [.t 3], none⟩,
        ⟨none, .store 4 true, [.t 2, .t 20], none⟩] [2] [2, 8, 13])
      .ret)))))
def a37 : AF := ⟨c37, [.cell 2 (some 4)]⟩
/-- spec.DrawPiFree -/
def c9 : AC :=
 (.seq
  (.reg [] [⟨some 2, .alloc [.i 0, .i 0, .i 0, .nils], [], none⟩] [0, 2] [2, 6, 8])
  (.seq
   (.reg [] [⟨some 5, .move, [.t 0], none⟩,
     ⟨some 6, .call [] false, [.f 36, .t 5], none⟩,
     ⟨some 3, .move, [.t 6], none⟩] [2, 3] [2, 6, 8])
   (.seq
    (.reg [] [⟨some 7, .move, [.t 3], none⟩,
      ⟨some 8, .call [] false, [.f 37, .t 7], none⟩,
      ⟨some 4, .alloc [.i 0, .i 0, .i 0, .nils], [], none⟩,
      ⟨none, .store 4 true, [.t 4, .t 8], none⟩] [2, 4] [2, 4, 6, 8])
    (.seq
     (.reg [] [⟨some 9, .load (some 4) false, [.t 4], none⟩,
       ⟨none, .store 4 true, [.t 2, .t 9], none⟩] [2] [2, 6, 8])
     .ret))))
def a9 : AF := ⟨c9, [.cell 2 (some 4)]⟩
def b41l0 : AC :=
 (.seq
  (.reg [] [⟨some 12, .bin .lt, [.t 11, .t 10], none⟩] [1, 5, 9, 10, 11, 12] [])
  (.seq
   (.cond (.t 12)
    .skip
    (.exit 0))
   (.seq
    (.block 1
     (.seq
      (.reg [] [⟨some 13, .iaddr 4, [.t 9, .t 11], none⟩,
        ⟨some 14, .load (some 4) false, [.t 13], none⟩,
        ⟨some 7, .alloc [.i 0, .i 0, .i 0, .nils], [], none⟩,
        ⟨none, .store 4 true, [.t 7, .t 14], none⟩] [1, 5, 7, 9, 10, 11] [7])
      (.seq
       (.seq
        (.reg [] [⟨some 15, .move, [.t 5], none⟩,
          ⟨some 16, .move, [.t 1], none⟩,
          ⟨some 17, .bin .gt, [.t 15, .t 16], none⟩] [1, 5, 7, 9, 10, 11, 17] [7])
        (.cond (.t 17)
         (.seq
          (.reg [] [⟨some 18, .move, [.t 5], none⟩,
            ⟨some 4, .move, [.t 18], none⟩] [4] [])
          .ret)
         .skip))
       (.reg [] [⟨some 19, .move, [.t 5], none⟩,
         ⟨some 20, .load (some 4) false, [.t 7], none⟩,
         ⟨some 21, .move, [.t 1], none⟩,
         ⟨some 22, .move, [.t 5], none⟩,
         ⟨some 23, .bin .sub, [.t 21, .t 22], none⟩,
         ⟨some 24, .call [] false, [.f 41, .t 20, .t 23], none⟩,
         ⟨some 25, .bin .add, [.t 19, .t 24], none⟩,
         ⟨some 5, .move, [.t 25], none⟩] [1, 5, 9, 10, 11] []))))
    (.reg [] [⟨some 26, .bin .add, [.t 11, .k (.i 1)], none⟩,
      ⟨some 11, .move, [.t 26], none⟩] [1, 5, 9, 10, 11] []))))
def c41l0 : AC := b41l0
theorem r41l0 (call lp s) : run call lp c41l0 s = run call lp b41l0 s := rfl
/-- impl.piNodes -/
def c41 : AC :=
 (.seq
  (.reg [] [⟨some 2, .box, [.t 0], none⟩,
    ⟨some 4, .move, [.k (.i 0)], none⟩] [1, 2] [2])
  (.seq
   (.reg [] [⟨some 5, .move, [.k (.i 1)], none⟩] [1, 2, 5] [2])
   (.seq
    (.seq
     (.reg [] [⟨some 8, .faddr 3, [.t 2], none⟩,
       ⟨some 9, .load none false, [.t 8], none⟩,
       ⟨some 10, .len, [.t 9], none⟩,
       ⟨some 11, .move, [.k (.i 0)], none⟩] [1, 5, 9, 10, 11] [])
     (.block 0
      (.loop [1, 5, 9, 10, 11] [] c41l0)))
    (.seq
     (.reg [] [⟨some 27, .move, [.t 5], none⟩,
       ⟨some 4, .move, [.t 27], none⟩] [4] [])
     .ret))))
def a41 : AF := ⟨c41, [.tmp 4]⟩
/-- impl.piName -/
def c85 : AC :=
 (.seq
  (.reg [] [⟨some 2, .move, [.k (.b false)], none⟩] [0] [])
  (.seq
   (.reg [] [⟨some 3, .move, [.t 0], none⟩,
     ⟨some 4, .bin .ge, [.t 3, .k (.i 0)], none⟩,
     ⟨some 5, .move, [.t 4], none⟩,
     ⟨some 6, .move, [.t 0], some (5, true)⟩,
     ⟨some 7, .bin .lt, [.t 6, .k (.i 30)], some (5, true)⟩,
     ⟨some 8, .pick, [.t 5, .t 7, .k (.b false)], none⟩,
     ⟨some 2, .move, [.t 8], none⟩] [2] [])
   .ret))
def a85 : AF := ⟨c85, [.tmp 2]⟩
def b102l0 : AC :=
 (.seq
  (.reg [] [⟨some 9, .bin .lt, [.t 8, .t 7], none⟩] [0, 1, 7, 8, 9] [])
  (.seq
   (.cond (.t 9)
    .skip
    (.exit 0))
   (.seq
    (.block 1
     (.seq
      (.reg [] [⟨some 10, .move, [.t 8], none⟩,
        ⟨some 5, .move, [.t 10], none⟩] [0, 1, 5, 7, 8] [])
      (.seq
       (.reg [] [⟨some 11, .move, [.t 1], none⟩,
         ⟨some 12, .move, [.t 0], none⟩,
         ⟨some 13, .move, [.t 5], none⟩,
         ⟨some 14, .iaddr 4, [.t 12, .t 13], none⟩,
         ⟨some 15, .load (some 4) false, [.t 14], none⟩,
         ⟨some 16, .call [] false, [.t 11, .t 15], none⟩] [0, 1, 5, 7, 8, 16] [])
       (.cond (.t 16)
        (.seq
         (.reg [] [⟨some 17, .move, [.t 5], none⟩,
           ⟨some 4, .move, [.t 17], none⟩] [4] [])
         .ret)
        .skip))))
    (.reg [] [⟨some 18, .bin .add, [.t 8, .k (.i 1)], none⟩,
      ⟨some 8, .move, [.t 18], none⟩] [0, 1, 7, 8] []))))
def c102l0 : AC := b102l0
theorem r102l0 (call lp s) : run call lp c102l0 s = run call lp b102l0 s := rfl
/-- impl.Pi] -/
def c102 : AC :=
 (.seq
  (.reg [] [⟨some 4, .move, [.k (.i 0)], none⟩] [0, 1] [])
  (.seq
   (.seq
    (.reg [] [⟨some 6, .move, [.t 0], none⟩,
      ⟨some 7, .len, [.t 6], none⟩,
      ⟨some 8, .move, [.k (.i 0)], none⟩] [0, 1, 7, 8] [])
    (.block 0
     (.loop [0, 1, 7, 8] [] c102l0)))
   (.seq
    (.reg [] [⟨some 4, .move, [.k (.i (-1))], none⟩] [4] [])
    .ret)))
def a102 : AF := ⟨c102, [.tmp 4]⟩
/-- impl.Pi] -/
def c86 : AC :=
 (.seq
  (.reg [] [⟨some 4, .move, [.k (.b false)], none⟩] [0, 1] [])
  (.seq
   (.reg [] [⟨some 5, .move, [.t 0], none⟩,
     ⟨some 6, .move, [.t 1], none⟩,
     ⟨some 7, .call [] false, [.f 102, .t 5, .t 6], none⟩,
     ⟨some 8, .bin .ge, [.t 7, .k (.i 0)], none⟩,
     ⟨some 4, .move, [.t 8], none⟩] [4] [])
   .ret))
def a86 : AF := ⟨c86, [.tmp 4]⟩
/-- impl.piShape$1 -/
def c87 : AC :=
 (.seq
  (.reg [] [⟨some 1, .box, [.t 0], none⟩,
    ⟨some 2, .move, [.k (.b false)], none⟩] [1] [1])
  (.seq
   (.reg [] [⟨some 3, .load (some 4) false, [.t 1], none⟩,
     ⟨some 4, .call [] false, [.f 42, .t 3], none⟩,
     ⟨some 5, .not, [.t 4], none⟩,
     ⟨some 2, .move, [.t 5], none⟩] [2] [])
   .ret))
def a87 : AF := ⟨c87, [.tmp 2]⟩
/-- impl.piShape -/
def c42 : AC :=
 (.seq
  (.reg [] [⟨some 1, .box, [.t 0], none⟩,
    ⟨some 2, .move, [.k (.b false)], none⟩] [1] [1])
  (.seq
   (.reg [] [⟨some 3, .move, [.k (.i 1)], none⟩] [1, 3] [1])
   (.seq
    (.seq
     (.reg [] [⟨some 4, .faddr 0, [.t 1], none⟩,
       ⟨some 5, .load none false, [.t 4], none⟩] [1, 3, 5] [1])
     (.block 0
      (.seq
       (.reg [] [⟨some 7, .bin .eq, [.t 5, .k (.i 0)], none⟩,
         ⟨some 6, .move, [.t 7], none⟩] [1, 3, 5, 6] [1])
       (.cond (.t 6)
        (.reg [] [⟨some 3, .move, [.k (.i 0)], none⟩] [1, 3] [1])
        (.seq
         (.seq
          (.reg [] [⟨some 9, .bin .eq, [.t 5, .k (.i 4)], none⟩,
            ⟨some 8, .move, [.t 9], none⟩] [1, 3, 5, 8] [1])
          (.cond (.t 8)
           .skip
           (.reg [] [⟨some 10, .bin .eq, [.t 5, .k (.i 5)], none⟩,
             ⟨some 8, .move, [.t 10], none⟩] [1, 3, 8] [1])))
         (.cond (.t 8)
          (.reg [] [⟨some 3, .move, [.k (.i 2)], none⟩] [1, 3] [1])
          .skip))))))
    (.seq
     (.seq
      (.reg [] [⟨some 11, .faddr 0, [.t 1], none⟩,
        ⟨some 12, .load none false, [.t 11], none⟩] [1, 3, 12] [1])
      (.block 1
       (.seq
        (.seq
         (.reg [] [⟨some 14, .bin .eq, [.t 12, .k (.i 0)], none⟩,
           ⟨some 13, .move, [.t 14], none⟩] [1, 3, 12, 13] [1])
         (.cond (.t 13)
          .skip
          (.seq
           (.reg [] [⟨some 15, .bin .eq, [.t 12, .k (.i 3)], none⟩,
             ⟨some 13, .move, [.t 15], none⟩] [1, 3, 12, 13] [1])
           (.cond (.t 13)
            .skip
            (.seq
             (.reg [] [⟨some 16, .bin .eq, [.t 12, .k (.i 4)], none⟩,
               ⟨some 13, .move, [.t 16], none⟩] [1, 3, 12, 13] [1])
             (.cond (.t 13)
              .skip
              (.reg [] [⟨some 17, .bin .eq, [.t 12, .k (.i 5)], none⟩,
                ⟨some 13, .move, [.t 17], none⟩] [1, 3, 12, 13] [1])))))))
        (.cond (.t 13)
         (.seq
          (.reg [] [⟨some 18, .faddr 1, [.t 1], none⟩,
            ⟨some 19, .load none false, [.t 18], none⟩,
            ⟨some 20, .bin .ne, [.t 19, .k (.i 0)], none⟩,
            ⟨some 21, .move, [.t 20], none⟩,
            ⟨some 22, .faddr 2, [.t 1], some (21, false)⟩,
            ⟨some 23, .load none false, [.t 22], some (21, false)⟩,
            ⟨some 24, .bin .ne, [.t 23, .k (.i 0)], some (21, false)⟩,
            ⟨some 25, .pick, [.t 21, .k (.b true), .t 24], none⟩] [1, 3, 25] [1])
          (.cond (.t 25)
           (.seq
            (.reg [] [⟨some 2, .move, [.k (.b false)], none⟩] [2] [])
            .ret)
           .skip))
         (.seq
          (.seq
           (.reg [] [⟨some 27, .bin .eq, [.t 12, .k (.i 1)], none⟩,
             ⟨some 26, .move, [.t 27], none⟩] [1, 3, 12, 26] [1])
           (.cond (.t 26)
            .skip
            (.seq
             (.reg [] [⟨some 28, .bin .eq, [.t 12, .k (.i 2)], none⟩,
               ⟨some 26, .move, [.t 28], none⟩] [1, 3, 12, 26] [1])
             (.cond (.t 26)
              .skip
              (.reg [] [⟨some 29, .bin .eq, [.t 12, .k (.i 7)], none⟩,
                ⟨some 26, .move, [.t 29], none⟩] [1, 3, 12, 26] [1])))))
          (.cond (.t 26)
           (.seq
            (.reg [] [⟨some 30, .faddr 1, [.t 1], none⟩,
              ⟨some 31, .load none false, [.t 30], none⟩,
              ⟨some 32, .call [] false, [.f 85, .t 31], none⟩,
              ⟨some 33, .not, [.t 32], none⟩,
              ⟨some 34, .move, [.t 33], none⟩,
              ⟨some 35, .faddr 2, [.t 1], some (34, false)⟩,
              ⟨some 36, .load none false, [.t 35], some (34, false)⟩,
              ⟨some 37, .call [] false, [.f 85, .t 36], some (34, false)⟩,
              ⟨some 38, .not, [.t 37], some (34, false)⟩,
              ⟨some 39, .pick, [.t 34, .k (.b true), .t 38], none⟩] [1, 3, 39] [1])
            (.cond (.t 39)
             (.seq
              (.reg [] [⟨some 2, .move, [.k (.b false)], none⟩] [2] [])
              .ret)
             .skip))
           (.seq
            (.reg [] [⟨some 41, .bin .eq, [.t 12, .k (.i 6)], none⟩,
              ⟨some 40, .move, [.t 41], none⟩] [1, 3, 40] [1])
            (.cond (.t 40)
             (.seq
              (.reg [] [⟨some 42, .faddr 1, [.t 1], none⟩,
                ⟨some 43, .load none false, [.t 42], none⟩,
                ⟨some 44, .call [] false, [.f 85, .t 43], none⟩,
                ⟨some 45, .not, [.t 44], none⟩,
                ⟨some 46, .move, [.t 45], none⟩,
                ⟨some 47, .faddr 2, [.t 1], some (46, false)⟩,
                ⟨some 48, .load none false, [.t 47], some (46, false)⟩,
                ⟨some 49, .bin .lt, [.t 48, .k (.i 0)], some (46, false)⟩,
                ⟨some 50, .pick, [.t 46, .k (.b true), .t 49], none⟩,
                ⟨some 51, .move, [.t 50], none⟩,
                ⟨some 52, .faddr 2, [.t 1], some (51, false)⟩,
                ⟨some 53, .load none false, [.t 52], some (51, false)⟩,
                ⟨some 54, .bin .ge, [.t 53, .k (.i 3)], some (51, false)⟩,
                ⟨some 55, .pick, [.t 51, .k (.b true), .t 54], none⟩] [1, 3, 55] [1])
              (.cond (.t 55)
               (.seq
                (.reg [] [⟨some 2, .move, [.k (.b false)], none⟩] [2] [])
                .ret)
               .skip))
             (.seq
              (.reg [] [⟨some 2, .move, [.k (.b false)], none⟩] [2] [])
              .ret)))))))))
     (.seq
      (.reg [] [⟨some 56, .faddr 3, [.t 1], none⟩,
        ⟨some 57, .load none false, [.t 56], none⟩,
        ⟨some 58, .len, [.t 57], none⟩,
        ⟨some 59, .move, [.t 3], none⟩,
        ⟨some 60, .bin .eq, [.t 58, .t 59], none⟩,
        ⟨some 61, .move, [.t 60], none⟩,
        ⟨some 62, .faddr 3, [.t 1], some (61, true)⟩,
        ⟨some 63, .load none false, [.t 62], some (61, true)⟩,
        ⟨some 64, .call [] false, [.f 86, .t 63, .f 87], some (61, true)⟩,
        ⟨some 65, .not, [.t 64], some (61, true)⟩,
        ⟨some 66, .pick, [.t 61, .t 65, .k (.b false)], none⟩,
        ⟨some 2, .move, [.t 66], none⟩] [2] [])
      .ret)))))
def a42 : AF := ⟨c42, [.tmp 2]⟩
/-- impl.PiOk -/
def c14 : AC :=
 (.seq
  (.reg [] [⟨some 1, .box, [.t 0], none⟩,
    ⟨some 2, .move, [.k (.b false)], none⟩] [1] [1])
  (.seq
   (.reg [] [⟨some 3, .load (some 4) false, [.t 1], none⟩,
     ⟨some 4, .call [] false, [.f 41, .t 3, .k (.i 14)], none⟩,
     ⟨some 5, .bin .le, [.t 4, .k (.i 14)], none⟩,
     ⟨some 6, .move, [.t 5], none⟩,
     ⟨some 7, .load (some 4) false, [.t 1], some (6, true)⟩,
     ⟨some 8, .call [] false, [.f 42, .t 7], some (6, true)⟩,
     ⟨some 9, .pick, [.t 6, .t 8, .k (.b false)], none⟩,
     ⟨some 2, .move, [.t 9], none⟩] [2] [])
   .ret))
def a14 : AF := ⟨c14, [.tmp 2]⟩
/-- impl.binds -/
def c80 : AC :=
 (.seq
  (.reg [] [⟨some 1, .box, [.t 0], none⟩,
    ⟨some 2, .move, [.k (.i 0)], none⟩] [1] [1])
  (.seq
   (.seq
    (.reg [] [⟨some 3, .faddr 0, [.t 1], none⟩,
      ⟨some 4, .load none false, [.t 3], none⟩] [1, 4] [1])
    (.block 0
     (.seq
      (.reg [] [⟨some 6, .bin .eq, [.t 4, .k (.i 2)], none⟩,
        ⟨some 5, .move, [.t 6], none⟩] [1, 4, 5] [1])
      (.cond (.t 5)
       (.seq
        (.reg [] [⟨some 7, .faddr 2, [.t 1], none⟩,
          ⟨some 8, .load none false, [.t 7], none⟩,
          ⟨some 2, .move, [.t 8], none⟩] [2] [])
        .ret)
       (.seq
        (.reg [] [⟨some 10, .bin .eq, [.t 4, .k (.i 6)], none⟩,
          ⟨some 9, .move, [.t 10], none⟩] [1, 9] [1])
        (.cond (.t 9)
         (.seq
          (.reg [] [⟨some 11, .faddr 1, [.t 1], none⟩,
            ⟨some 12, .load none false, [.t 11], none⟩,
            ⟨some 2, .move, [.t 12], none⟩] [2] [])
          .ret)
         .skip))))))
   (.seq
    (.reg [] [⟨some 2, .move, [.k (.i (-1))], none⟩] [2] [])
    .ret)))
def a80 : AF := ⟨c80, [.tmp 2]⟩
/-- impl.uses -/
def c81 : AC :=
 (.seq
  (.reg [] [⟨some 1, .box, [.t 0], none⟩,
    ⟨some 2, .move, [.k (.nils)], none⟩] [1] [1])
  (.seq
   (.seq
    (.reg [] [⟨some 3, .faddr 0, [.t 1], none⟩,
      ⟨some 4, .load none false, [.t 3], none⟩] [1, 4] [1])
    (.block 0
     (.seq
      (.seq
       (.reg [] [⟨some 6, .bin .eq, [.t 4, .k (.i 1)], none⟩,
         ⟨some 5, .move, [.t 6], none⟩] [1, 4, 5] [1])
       (.cond (.t 5)
        .skip
        (.reg [] [⟨some 7, .bin .eq, [.t 4, .k (.i 7)], none⟩,
          ⟨some 5, .move, [.t 7], none⟩] [1, 4, 5] [1])))
      (.cond (.t 5)
       (.seq
        (.reg [] [⟨some 8, .faddr 1, [.t 1], none⟩,
          ⟨some 9, .load none false, [.t 8], none⟩,
          ⟨some 10, .faddr 2, [.t 1], none⟩,
          ⟨some 11, .load none false, [.t 10], none⟩,
          ⟨some 12, .bslice 1 true, [.t 9, .t 11], none⟩,
          ⟨some 2, .move, [.t 12], none⟩] [2] [12, 17])
        .ret)
       (.seq
        (.reg [] [⟨some 14, .bin .eq, [.t 4, .k (.i 2)], none⟩,
          ⟨some 13, .move, [.t 14], none⟩] [1, 13] [1])
        (.cond (.t 13)
         (.seq
          (.reg [] [⟨some 15, .faddr 1, [.t 1], none⟩,
            ⟨some 16, .load none false, [.t 15], none⟩,
            ⟨some 17, .bslice 1 true, [.t 16], none⟩,
            ⟨some 2, .move, [.t 17], none⟩] [2] [12, 17])
          .ret)
         .skip))))))
   (.seq
    (.reg [] [⟨some 2, .move, [.k (.nils)], none⟩] [2] [12, 17])
    .ret)))
def a81 : AF := ⟨c81, [.tmp 2]⟩
def b38l0 : AC :=
 (.seq
  (.reg [] [⟨some 22, .bin .lt, [.t 21, .k (.i 30)], none⟩] [1, 2, 3, 13, 14, 15, 20, 21, 22] [1, 2, 3])
  (.seq
   (.cond (.t 22)
    .skip
    (.exit 2))
   (.seq
    (.block 3
     (.seq
      (.reg [] [⟨some 23, .move, [.t 21], none⟩,
        ⟨some 24, .idx none 1 30, [.t 20, .t 21], none⟩,
        ⟨some 6, .move, [.t 23], none⟩,
        ⟨some 7, .move, [.t 24], none⟩] [1, 2, 3, 6, 7, 13, 14, 15, 20, 21] [1, 2, 3])
      (.reg [] [⟨some 25, .move, [.t 6], none⟩,
        ⟨some 26, .move, [.t 6], none⟩,
        ⟨some 27, .iarr 1 30, [.t 3, .t 26], none⟩,
        ⟨some 28, .load none false, [.t 27], none⟩,
        ⟨some 29, .move, [.t 28], none⟩,
        ⟨some 30, .move, [.t 7], some (29, false)⟩,
        ⟨some 31, .pick, [.t 29, .k (.b true), .t 30], none⟩,
        ⟨some 32, .iarr 1 30, [.t 3, .t 25], none⟩,
        ⟨none, .store 1 true, [.t 32, .t 31], none⟩] [1, 2, 3, 13, 14, 15, 20, 21] [1, 2, 3])))
    (.reg [] [⟨some 33, .bin .add, [.t 21, .k (.i 1)], none⟩,
      ⟨some 21, .move, [.t 33], none⟩] [1, 2, 3, 13, 14, 15, 20, 21] [1, 2, 3]))))
def c38l0 : AC := b38l0
theorem r38l0 (call lp s) : run call lp c38l0 s = run call lp b38l0 s := rfl
def b38l1 : AC :=
 (.seq
  (.reg [] [⟨some 16, .bin .lt, [.t 15, .t 14], none⟩] [1, 2, 3, 13, 14, 15, 16] [1, 2, 3])
  (.seq
   (.cond (.t 16)
    .skip
    (.exit 0))
   (.seq
    (.block 1
     (.seq
      (.reg [] [⟨some 17, .iaddr 4, [.t 13, .t 15], none⟩,
        ⟨some 18, .load (some 4) false, [.t 17], none⟩,
        ⟨some 5, .alloc [.i 0, .i 0, .i 0, .nils], [], none⟩,
        ⟨none, .store 4 true, [.t 5, .t 18], none⟩] [1, 2, 3, 5, 13, 14, 15] [1, 2, 3, 5])
      (.seq
       (.reg [] [⟨some 19, .load (some 4) false, [.t 5], none⟩,
         ⟨some 20, .call [] false, [.f 38, .t 19], none⟩,
         ⟨some 21, .move, [.k (.i 0)], none⟩] [1, 2, 3, 13, 14, 15, 20, 21] [1, 2, 3])
       (.block 2
        (.loop [1, 2, 3, 13, 14, 15, 20, 21] [1, 2, 3] c38l0)))))
    (.reg [] [⟨some 34, .bin .add, [.t 15, .k (.i 1)], none⟩,
      ⟨some 15, .move, [.t 34], none⟩] [1, 2, 3, 13, 14, 15] [1, 2, 3]))))
def c38l1 : AC := b38l1
theorem r38l1 (call lp s) : run call lp c38l1 s = run call lp b38l1 s := rfl
def b38l2 : AC :=
 (.seq
  (.reg [] [⟨some 45, .bin .lt, [.t 44, .t 43], none⟩] [2, 3, 42, 43, 44, 45] [2, 3, 42])
  (.seq
   (.cond (.t 45)
    .skip
    (.exit 4))
   (.seq
    (.block 5
     (.seq
      (.reg [] [⟨some 46, .iaddr 1, [.t 42, .t 44], none⟩,
        ⟨some 47, .load none false, [.t 46], none⟩,
        ⟨some 10, .move, [.t 47], none⟩] [2, 3, 10, 42, 43, 44] [2, 3, 42])
      (.reg [] [⟨some 48, .move, [.t 10], none⟩,
        ⟨some 49, .iarr 1 30, [.t 3, .t 48], none⟩,
        ⟨none, .store 1 true, [.t 49, .k (.b true)], none⟩] [2, 3, 42, 43, 44] [2, 3, 42])))
    (.reg [] [⟨some 50, .bin .add, [.t 44, .k (.i 1)], none⟩,
      ⟨some 44, .move, [.t 50], none⟩] [2, 3, 42, 43, 44] [2, 3, 42]))))
def c38l2 : AC := b38l2
theorem r38l2 (call lp s) : run call lp c38l2 s = run call lp b38l2 s := rfl
/-- impl.free -/
def c38 : AC :=
 (.seq
  (.reg [] [⟨some 1, .box, [.t 0], none⟩,
    ⟨some 2, .alloc [.b false, .b false, .b false, .b false, .b false, .b false, .b false, .b false, .b false, .b false, .b false, .b false, .b false, .b false, .b false, .b false, .b false, .b false, .b false, .b false, .b false, .b false, .b false, .b false, .b false, .b false, .b false, .b false, .b false, .b false], [], none⟩] [1, 2] [1, 2])
  (.seq
   (.reg [] [⟨some 11, .build [.b false, .b false, .b false, .b false, .b false, .b false, .b false, .b false, .b false, .b false, .b false, .b false, .b false, .b false, .b false, .b false, .b false, .b false, .b false, .b false, .b false, .b false, .b false, .b false, .b false, .b false, .b false, .b false, .b false, .b false] [], [], none⟩,
     ⟨some 3, .alloc [.b false, .b false, .b false, .b false, .b false, .b false, .b false, .b false, .b false, .b false, .b false, .b false, .b false, .b false, .b false, .b false, .b false, .b false, .b false, .b false, .b false, .b false, .b false, .b false, .b false, .b false, .b false, .b false, .b false, .b false], [], none⟩,
     ⟨none, .store 30 true, [.t 3, .t 11], none⟩] [1, 2, 3] [1, 2, 3])
   (.seq
    (.seq
     (.reg [] [⟨some 12, .faddr 3, [.t 1], none⟩,
       ⟨some 13, .load none false, [.t 12], none⟩,
       ⟨some 14, .len, [.t 13], none⟩,
       ⟨some 15, .move, [.k (.i 0)], none⟩] [1, 2, 3, 13, 14, 15] [1, 2, 3])
     (.block 0
      (.loop [1, 2, 3, 13, 14, 15] [1, 2, 3] c38l1)))
    (.seq
     (.seq
      (.reg [] [⟨some 35, .load (some 4) false, [.t 1], none⟩,
        ⟨some 36, .call [] false, [.f 80, .t 35], none⟩,
        ⟨some 8, .move, [.t 36], none⟩] [1, 2, 3, 8] [1, 2, 3])
      (.seq
       (.reg [] [⟨some 37, .move, [.t 8], none⟩,
         ⟨some 38, .bin .ge, [.t 37, .k (.i 0)], none⟩] [1, 2, 3, 8, 38] [1, 2, 3])
       (.cond (.t 38)
        (.reg [] [⟨some 39, .move, [.t 8], none⟩,
          ⟨some 40, .iarr 1 30, [.t 3, .t 39], none⟩,
          ⟨none, .store 1 true, [.t 40, .k (.b false)], none⟩] [1, 2, 3] [1, 2, 3])
        .skip)))
     (.seq
      (.seq
       (.reg [] [⟨some 41, .load (some 4) false, [.t 1], none⟩,
         ⟨some 42, .call [] false, [.f 81, .t 41], none⟩,
         ⟨some 43, .len, [.t 42], none⟩,
         ⟨some 44, .move, [.k (.i 0)], none⟩] [2, 3, 42, 43, 44] [2, 3, 42])
       (.block 4
        (.loop [2, 3, 42, 43, 44] [2, 3, 42] c38l2)))
      (.seq
       (.reg [] [⟨some 51, .load (some 30) false, [.t 3], none⟩,
         ⟨none, .store 30 true, [.t 2, .t 51], none⟩] [2] [2])
       .ret))))))
def a38 : AF := ⟨c38, [.cell 2 (some 30)]⟩
def b10l0 : AC :=
 (.seq
  (.reg [] [⟨some 14, .bin .lt, [.t 13, .k (.i 30)], none⟩] [3, 12, 13, 14] [6, 21])
  (.seq
   (.cond (.t 14)
    .skip
    (.exit 0))
   (.seq
    (.block 1
     (.seq
      (.reg [] [⟨some 15, .move, [.t 13], none⟩,
        ⟨some 16, .idx none 1 30, [.t 12, .t 13], none⟩,
        ⟨some 4, .move, [.t 15], none⟩,
        ⟨some 5, .move, [.t 16], none⟩] [3, 4, 5, 12, 13] [6, 21])
      (.seq
       (.reg [] [⟨some 17, .move, [.t 5], none⟩] [3, 4, 12, 13, 17] [6, 21])
       (.cond (.t 17)
        (.reg [] [⟨some 18, .move, [.t 3], none⟩,
          ⟨some 19, .move, [.t 4], none⟩,
          ⟨some 20, .bslice 1 true, [.t 19], none⟩,
          ⟨some 21, .append 1 true, [.t 18, .t 20], none⟩,
          ⟨some 3, .move, [.t 21], none⟩] [3, 12, 13] [6, 21])
        .skip))))
    (.reg [] [⟨some 22, .bin .add, [.t 13, .k (.i 1)], none⟩,
      ⟨some 13, .move, [.t 22], none⟩] [3, 12, 13] [6, 21]))))
def c10l0 : AC := b10l0
theorem r10l0 (call lp s) : run call lp c10l0 s = run call lp b10l0 s := rfl
/-- impl.PiFree -/
def c10 : AC :=
 (.seq
  (.reg [] [⟨some 1, .box, [.t 0], none⟩,
    ⟨some 2, .move, [.k (.nils)], none⟩] [1] [1])
  (.seq
   (.reg [] [⟨some 6, .bslice 1 true, [], none⟩,
     ⟨some 3, .move, [.t 6], none⟩] [1, 3] [1, 6, 21])
   (.seq
    (.seq
     (.reg [] [⟨some 7, .load (some 4) false, [.t 1], none⟩,
       ⟨some 8, .call [] false, [.f 14, .t 7], none⟩,
       ⟨some 9, .not, [.t 8], none⟩] [1, 3, 9] [1, 6, 21])
     (.cond (.t 9)
      (.seq
       (.reg [] [⟨some 10, .move, [.t 3], none⟩,
         ⟨some 2, .move, [.t 10], none⟩] [2] [6, 21])
       .ret)
      .skip))
    (.seq
     (.seq
      (.reg [] [⟨some 11, .load (some 4) false, [.t 1], none⟩,
        ⟨some 12, .call [] false, [.f 38, .t 11], none⟩,
        ⟨some 13, .move, [.k (.i 0)], none⟩] [3, 12, 13] [6, 21])
      (.block 0
       (.loop [3, 12, 13] [6, 21] c10l0)))
     (.seq
      (.reg [] [⟨some 23, .move, [.t 3], none⟩,
        ⟨some 2, .move, [.t 23], none⟩] [2] [6, 21])
      .ret)))))
def a10 : AF := ⟨c10, [.tmp 2]⟩
/-- spec.l6In -/
def c60 : AC :=
 (.seq
  (.reg [] [⟨some 6, .move, [.k (.b false)], none⟩] [0, 1, 2] [])
  (.seq
   (.reg [] [⟨some 7, .move, [.t 0], none⟩,
     ⟨some 8, .move, [.t 1], none⟩,
     ⟨some 9, .bin .ge, [.t 7, .t 8], none⟩,
     ⟨some 10, .move, [.t 9], none⟩,
     ⟨some 11, .move, [.t 0], some (10, true)⟩,
     ⟨some 12, .move, [.t 2], some (10, true)⟩,
     ⟨some 13, .bin .le, [.t 11, .t 12], some (10, true)⟩,
     ⟨some 14, .pick, [.t 10, .t 13, .k (.b false)], none⟩,
     ⟨some 6, .move, [.t 14], none⟩] [6] [])
   .ret))
def a60 : AF := ⟨c60, [.tmp 6]⟩
/-- spec.l13Name -/
def c101 : AC :=
 (.seq
  (.reg [] [⟨some 2, .move, [.k (.b false)], none⟩] [0] [])
  (.seq
   (.reg [] [⟨some 3, .move, [.t 0], none⟩,
     ⟨some 4, .call [] false, [.f 60, .t 3, .k (.i 0), .k (.i 29)], none⟩,
     ⟨some 2, .move, [.t 4], none⟩] [2] [])
   .ret))
def a101 : AF := ⟨c101, [.tmp 2]⟩
def b82l0 : AC :=
 (.seq
  (.seq
   (.reg [] [⟨some 70, .move, [.t 6], none⟩,
     ⟨some 71, .move, [.t 3], none⟩,
     ⟨some 72, .bin .lt, [.t 70, .t 71], none⟩] [1, 3, 5, 6, 72] [1])
   (.cond (.t 72)
    .skip
    (.exit 1)))
  (.seq
   (.block 2
    (.seq
     (.reg [] [⟨some 75, .faddr 3, [.t 1], none⟩,
       ⟨some 76, .load none false, [.t 75], none⟩,
       ⟨some 77, .move, [.t 6], none⟩,
       ⟨some 78, .iaddr 4, [.t 76, .t 77], none⟩,
       ⟨some 79, .load (some 4) false, [.t 78], none⟩,
       ⟨some 80, .call [] false, [.f 82, .t 79], none⟩,
       ⟨some 7, .move, [.t 80], none⟩] [1, 3, 5, 6, 7] [1])
     (.seq
      (.seq
       (.reg [] [⟨some 81, .move, [.t 7], none⟩,
         ⟨some 82, .bin .eq, [.t 81, .k (.i 0)], none⟩] [1, 3, 5, 6, 7, 82] [1])
       (.cond (.t 82)
        (.seq
         (.reg [] [⟨some 2, .move, [.k (.i 0)], none⟩] [2] [])
         .ret)
        .skip))
      (.reg [] [⟨some 83, .move, [.t 5], none⟩,
        ⟨some 84, .move, [.t 7], none⟩,
        ⟨some 85, .bin .add, [.t 83, .t 84], none⟩,
        ⟨some 86, .min2, [.k (.i 1000), .t 85], none⟩,
        ⟨some 5, .move, [.t 86], none⟩] [1, 3, 5, 6] [1]))))
   (.reg [] [⟨some 73, .move, [.t 6], none⟩,
     ⟨some 74, .bin .add, [.t 73, .k (.i 1)], none⟩,
     ⟨some 6, .move, [.t 74], none⟩] [1, 3, 5, 6] [1])))
def c82l0 : AC := b82l0
theorem r82l0 (call lp s) : run call lp c82l0 s = run call lp b82l0 s := rfl
/-- spec.l13Nodes -/
def c82 : AC :=
 (.seq
  (.reg [] [⟨some 1, .box, [.t 0], none⟩,
    ⟨some 2, .move, [.k (.i 0)], none⟩] [1] [1])
  (.seq
   (.reg [] [⟨some 3, .move, [.k (.i 1)], none⟩] [1, 3] [1])
   (.seq
    (.reg [] [⟨some 8, .faddr 1, [.t 1], none⟩,
      ⟨some 9, .load none false, [.t 8], none⟩,
      ⟨some 10, .call [] false, [.f 101, .t 9], none⟩,
      ⟨some 11, .move, [.t 10], none⟩,
      ⟨some 12, .faddr 2, [.t 1], some (11, true)⟩,
      ⟨some 13, .load none false, [.t 12], some (11, true)⟩,
      ⟨some 14, .call [] false, [.f 101, .t 13], some (11, true)⟩,
      ⟨some 15, .pick, [.t 11, .t 14, .k (.b false)], none⟩,
      ⟨some 4, .move, [.t 15], none⟩] [1, 3, 4] [1])
    (.seq
     (.seq
      (.reg [] [⟨some 16, .faddr 0, [.t 1], none⟩,
        ⟨some 17, .load none false, [.t 16], none⟩] [1, 3, 4, 17] [1])
      (.block 0
       (.seq
        (.reg [] [⟨some 19, .bin .eq, [.t 17, .k (.i 0)], none⟩,
          ⟨some 18, .move, [.t 19], none⟩] [1, 3, 4, 17, 18] [1])
        (.cond (.t 18)
         (.seq
          (.reg [] [⟨some 3, .move, [.k (.i 0)], none⟩] [1, 3] [1])
          (.reg [] [⟨some 20, .faddr 1, [.t 1], none⟩,
            ⟨some 21, .load none false, [.t 20], none⟩,
            ⟨some 22, .bin .eq, [.t 21, .k (.i 0)], none⟩,
            ⟨some 23, .move, [.t 22], none⟩,
            ⟨some 24, .faddr 2, [.t 1], some (23, true)⟩,
            ⟨some 25, .load none false, [.t 24], some (23, true)⟩,
            ⟨some 26, .bin .eq, [.t 25, .k (.i 0)], some (23, true)⟩,
            ⟨some 27, .pick, [.t 23, .t 26, .k (.b false)], none⟩,
            ⟨some 4, .move, [.t 27], none⟩] [1, 3, 4] [1]))
         (.seq
          (.reg [] [⟨some 29, .bin .eq, [.t 17, .k (.i 3)], none⟩,
            ⟨some 28, .move, [.t 29], none⟩] [1, 3, 4, 17, 28] [1])
          (.cond (.t 28)
           (.reg [] [⟨some 30, .faddr 1, [.t 1], none⟩,
             ⟨some 31, .load none false, [.t 30], none⟩,
             ⟨some 32, .bin .eq, [.t 31, .k (.i 0)], none⟩,
             ⟨some 33, .move, [.t 32], none⟩,
             ⟨some 34, .faddr 2, [.t 1], some (33, true)⟩,
             ⟨some 35, .load none false, [.t 34], some (33, true)⟩,
             ⟨some 36, .bin .eq, [.t 35, .k (.i 0)], some (33, true)⟩,
             ⟨some 37, .pick, [.t 33, .t 36, .k (.b false)], none⟩,
             ⟨some 4, .move, [.t 37], none⟩] [1, 3, 4] [1])
           (.seq
            (.seq
             (.reg [] [⟨some 39, .bin .eq, [.t 17, .k (.i 4)], none⟩,
               ⟨some 38, .move, [.t 39], none⟩] [1, 3, 4, 17, 38] [1])
             (.cond (.t 38)
              .skip
              (.reg [] [⟨some 40, .bin .eq, [.t 17, .k (.i 5)], none⟩,
                ⟨some 38, .move, [.t 40], none⟩] [1, 3, 4, 17, 38] [1])))
            (.cond (.t 38)
             (.seq
              (.reg [] [⟨some 3, .move, [.k (.i 2)], none⟩] [1, 3] [1])
              (.reg [] [⟨some 41, .faddr 1, [.t 1], none⟩,
                ⟨some 42, .load none false, [.t 41], none⟩,
                ⟨some 43, .bin .eq, [.t 42, .k (.i 0)], none⟩,
                ⟨some 44, .move, [.t 43], none⟩,
                ⟨some 45, .faddr 2, [.t 1], some (44, true)⟩,
                ⟨some 46, .load none false, [.t 45], some (44, true)⟩,
                ⟨some 47, .bin .eq, [.t 46, .k (.i 0)], some (44, true)⟩,
                ⟨some 48, .pick, [.t 44, .t 47, .k (.b false)], none⟩,
                ⟨some 4, .move, [.t 48], none⟩] [1, 3, 4] [1]))
             (.seq
              (.reg [] [⟨some 50, .bin .eq, [.t 17, .k (.i 6)], none⟩,
                ⟨some 49, .move, [.t 50], none⟩] [1, 3, 4, 17, 49] [1])
              (.cond (.t 49)
               (.reg [] [⟨some 51, .move, [.t 4], none⟩,
                 ⟨some 52, .move, [.t 51], none⟩,
                 ⟨some 53, .faddr 2, [.t 1], some (52, true)⟩,
                 ⟨some 54, .load none false, [.t 53], some (52, true)⟩,
                 ⟨some 55, .bin .lt, [.t 54, .k (.i 3)], some (52, true)⟩,
                 ⟨some 56, .pick, [.t 52, .t 55, .k (.b false)], none⟩,
                 ⟨some 4, .move, [.t 56], none⟩] [1, 3, 4] [1])
               (.seq
                (.seq
                 (.reg [] [⟨some 58, .bin .eq, [.t 17, .k (.i 1)], none⟩,
                   ⟨some 57, .move, [.t 58], none⟩] [1, 3, 4, 17, 57] [1])
                 (.cond (.t 57)
                  .skip
                  (.seq
                   (.reg [] [⟨some 59, .bin .eq, [.t 17, .k (.i 2)], none⟩,
                     ⟨some 57, .move, [.t 59], none⟩] [1, 3, 4, 17, 57] [1])
                   (.cond (.t 57)
                    .skip
                    (.reg [] [⟨some 60, .bin .eq, [.t 17, .k (.i 7)], none⟩,
                      ⟨some 57, .move, [.t 60], none⟩] [1, 3, 4, 57] [1])))))
                (.cond (.t 57)
                 .skip
                 (.seq
                  (.reg [] [⟨some 2, .move, [.k (.i 0)], none⟩] [2] [])
                  .ret)))))))))))))
     (.seq
      (.seq
       (.reg [] [⟨some 61, .move, [.t 4], none⟩,
         ⟨some 62, .not, [.t 61], none⟩,
         ⟨some 63, .move, [.t 62], none⟩,
         ⟨some 64, .faddr 3, [.t 1], some (63, false)⟩,
         ⟨some 65, .load none false, [.t 64], some (63, false)⟩,
         ⟨some 66, .len, [.t 65], some (63, false)⟩,
         ⟨some 67, .move, [.t 3], some (63, false)⟩,
         ⟨some 68, .bin .ne, [.t 66, .t 67], some (63, false)⟩,
         ⟨some 69, .pick, [.t 63, .k (.b true), .t 68], none⟩] [1, 3, 69] [1])
       (.cond (.t 69)
        (.seq
         (.reg [] [⟨some 2, .move, [.k (.i 0)], none⟩] [2] [])
         .ret)
        .skip))
      (.seq
       (.reg [] [⟨some 5, .move, [.k (.i 1)], none⟩] [1, 3, 5] [1])
       (.seq
        (.seq
         (.reg [] [⟨some 6, .move, [.k (.i 0)], none⟩] [1, 3, 5, 6] [1])
         (.block 1
          (.loop [1, 3, 5, 6] [1] c82l0)))
        (.seq
         (.reg [] [⟨some 87, .move, [.t 5], none⟩,
           ⟨some 2, .move, [.t 87], none⟩] [2] [])
         .ret))))))))
def a82 : AF := ⟨c82, [.tmp 2]⟩
/-- spec.PiOk -/
def c39 : AC :=
 (.seq
  (.reg [] [⟨some 1, .box, [.t 0], none⟩,
    ⟨some 2, .move, [.k (.b false)], none⟩] [1] [1])
  (.seq
   (.reg [] [⟨some 3, .load (some 4) false, [.t 1], none⟩,
     ⟨some 4, .call [] false, [.f 82, .t 3], none⟩,
     ⟨some 5, .call [] false, [.f 60, .t 4, .k (.i 1), .k (.i 14)], none⟩,
     ⟨some 2, .move, [.t 5], none⟩] [2] [])
   .ret))
def a39 : AF := ⟨c39, [.tmp 2]⟩
/-- spec.l13Uses -/
def c83 : AC :=
 (.seq
  (.reg [] [⟨some 2, .box, [.t 0], none⟩,
    ⟨some 4, .move, [.k (.b false)], none⟩] [1, 2] [2])
  (.seq
   (.seq
    (.reg [] [⟨some 5, .faddr 0, [.t 2], none⟩,
      ⟨some 6, .load none false, [.t 5], none⟩] [1, 2, 6] [2])
    (.block 0
     (.seq
      (.seq
       (.reg [] [⟨some 8, .bin .eq, [.t 6, .k (.i 1)], none⟩,
         ⟨some 7, .move, [.t 8], none⟩] [1, 2, 6, 7] [2])
       (.cond (.t 7)
        .skip
        (.reg [] [⟨some 9, .bin .eq, [.t 6, .k (.i 7)], none⟩,
          ⟨some 7, .move, [.t 9], none⟩] [1, 2, 6, 7] [2])))
      (.cond (.t 7)
       (.seq
        (.reg [] [⟨some 10, .faddr 1, [.t 2], none⟩,
          ⟨some 11, .load none false, [.t 10], none⟩,
          ⟨some 12, .move, [.t 1], none⟩,
          ⟨some 13, .bin .eq, [.t 11, .t 12], none⟩,
          ⟨some 14, .move, [.t 13], none⟩,
          ⟨some 15, .faddr 2, [.t 2], some (14, false)⟩,
          ⟨some 16, .load none false, [.t 15], some (14, false)⟩,
          ⟨some 17, .move, [.t 1], some (14, false)⟩,
          ⟨some 18, .bin .eq, [.t 16, .t 17], some (14, false)⟩,
          ⟨some 19, .pick, [.t 14, .k (.b true), .t 18], none⟩,
          ⟨some 4, .move, [.t 19], none⟩] [4] [])
        .ret)
       (.seq
        (.reg [] [⟨some 21, .bin .eq, [.t 6, .k (.i 2)], none⟩,
          ⟨some 20, .move, [.t 21], none⟩] [1, 2, 20] [2])
        (.cond (.t 20)
         (.seq
          (.reg [] [⟨some 22, .faddr 1, [.t 2], none⟩,
            ⟨some 23, .load none false, [.t 22], none⟩,
            ⟨some 24, .move, [.t 1], none⟩,
            ⟨some 25, .bin .eq, [.t 23, .t 24], none⟩,
            ⟨some 4, .move, [.t 25], none⟩] [4] [])
          .ret)
         .skip))))))
   (.seq
    (.reg [] [⟨some 4, .move, [.k (.b false)], none⟩] [4] [])
    .ret)))
def a83 : AF := ⟨c83, [.tmp 4]⟩
/-- spec.l13Binds -/
def c84 : AC :=
 (.seq
  (.reg [] [⟨some 1, .box, [.t 0], none⟩,
    ⟨some 2, .move, [.k (.i 0)], none⟩] [1] [1])
  (.seq
   (.seq
    (.reg [] [⟨some 3, .faddr 0, [.t 1], none⟩,
      ⟨some 4, .load none false, [.t 3], none⟩] [1, 4] [1])
    (.block 0
     (.seq
      (.reg [] [⟨some 6, .bin .eq, [.t 4, .k (.i 2)], none⟩,
        ⟨some 5, .move, [.t 6], none⟩] [1, 4, 5] [1])
      (.cond (.t 5)
       (.seq
        (.reg [] [⟨some 7, .faddr 2, [.t 1], none⟩,
          ⟨some 8, .load none false, [.t 7], none⟩,
          ⟨some 2, .move, [.t 8], none⟩] [2] [])
        .ret)
       (.seq
        (.reg [] [⟨some 10, .bin .eq, [.t 4, .k (.i 6)], none⟩,
          ⟨some 9, .move, [.t 10], none⟩] [1, 9] [1])
        (.cond (.t 9)
         (.seq
          (.reg [] [⟨some 11, .faddr 1, [.t 1], none⟩,
            ⟨some 12, .load none false, [.t 11], none⟩,
            ⟨some 2, .move, [.t 12], none⟩] [2] [])
          .ret)
         .skip))))))
   (.seq
    (.reg [] [⟨some 2, .move, [.k (.i (-1))], none⟩] [2] [])
    .ret)))
def a84 : AF := ⟨c84, [.tmp 2]⟩
def b40l0 : AC :=
 (.seq
  (.seq
   (.reg [] [⟨some 9, .move, [.t 5], none⟩,
     ⟨some 10, .faddr 3, [.t 2], none⟩,
     ⟨some 11, .load none false, [.t 10], none⟩,
     ⟨some 12, .len, [.t 11], none⟩,
     ⟨some 13, .bin .lt, [.t 9, .t 12], none⟩,
     ⟨some 14, .move, [.t 13], none⟩,
     ⟨some 15, .load (some 4) false, [.t 2], some (14, true)⟩,
     ⟨some 16, .call [] false, [.f 84, .t 15], some (14, true)⟩,
     ⟨some 17, .move, [.t 1], some (14, true)⟩,
     ⟨some 18, .bin .ne, [.t 16, .t 17], some (14, true)⟩,
     ⟨some 19, .pick, [.t 14, .t 18, .k (.b false)], none⟩] [1, 2, 5, 19] [2])
   (.cond (.t 19)
    .skip
    (.exit 0)))
  (.seq
   (.block 1
    (.seq
     (.reg [] [⟨some 22, .faddr 3, [.t 2], none⟩,
       ⟨some 23, .load none false, [.t 22], none⟩,
       ⟨some 24, .move, [.t 5], none⟩,
       ⟨some 25, .iaddr 4, [.t 23, .t 24], none⟩,
       ⟨some 26, .load (some 4) false, [.t 25], none⟩,
       ⟨some 27, .move, [.t 1], none⟩,
       ⟨some 28, .call [] false, [.f 40, .t 26, .t 27], none⟩] [1, 2, 5, 28] [2])
     (.cond (.t 28)
      (.seq
       (.reg [] [⟨some 4, .move, [.k (.b true)], none⟩] [4] [])
       .ret)
      .skip)))
   (.reg [] [⟨some 20, .move, [.t 5], none⟩,
     ⟨some 21, .bin .add, [.t 20, .k (.i 1)], none⟩,
     ⟨some 5, .move, [.t 21], none⟩] [1, 2, 5] [2])))
def c40l0 : AC := b40l0
theorem r40l0 (call lp s) : run call lp c40l0 s = run call lp b40l0 s := rfl
/-- spec.l13Free -/
def c40 : AC :=
 (.seq
  (.reg [] [⟨some 2, .box, [.t 0], none⟩,
    ⟨some 4, .move, [.k (.b false)], none⟩] [1, 2] [2])
  (.seq
   (.seq
    (.reg [] [⟨some 6, .load (some 4) false, [.t 2], none⟩,
      ⟨some 7, .move, [.t 1], none⟩,
      ⟨some 8, .call [] false, [.f 83, .t 6, .t 7], none⟩] [1, 2, 8] [2])
    (.cond (.t 8)
     (.seq
      (.reg [] [⟨some 4, .move, [.k (.b true)], none⟩] [4] [])
      .ret)
     .skip))
   (.seq
    (.seq
     (.reg [] [⟨some 5, .move, [.k (.i 0)], none⟩] [1, 2, 5] [2])
     (.block 0
      (.loop [1, 2, 5] [2] c40l0)))
    (.seq
     (.reg [] [⟨some 4, .move, [.k (.b false)], none⟩] [4] [])
     .ret))))
def a40 : AF := ⟨c40, [.tmp 4]⟩
def b11l0 : AC :=
 (.seq
  (.seq
   (.reg [] [⟨some 6, .move, [.t 4], none⟩,
     ⟨some 7, .bin .lt, [.t 6, .k (.i 30)], none⟩,
     ⟨some 8, .move, [.t 7], none⟩,
     ⟨some 9, .load (some 4) false, [.t 1], some (8, true)⟩,
     ⟨some 10, .call [] false, [.f 39, .t 9], some (8, true)⟩,
     ⟨some 11, .pick, [.t 8, .t 10, .k (.b false)], none⟩] [1, 3, 4, 11] [1, 5, 20])
   (.cond (.t 11)
    .skip
    (.exit 0)))
  (.seq
   (.block 1
    (.seq
     (.reg [] [⟨some 14, .load (some 4) false, [.t 1], none⟩,
       ⟨some 15, .move, [.t 4], none⟩,
       ⟨some 16, .call [] false, [.f 40, .t 14, .t 15], none⟩] [1, 3, 4, 16] [1, 5, 20])
     (.cond (.t 16)
      (.reg [] [⟨some 17, .move, [.t 3], none⟩,
        ⟨some 18, .move, [.t 4], none⟩,
        ⟨some 19, .bslice 1 true, [.t 18], none⟩,
        ⟨some 20, .append 1 true, [.t 17, .t 19], none⟩,
        ⟨some 3, .move, [.t 20], none⟩] [1, 3, 4] [1, 5, 20])
      .skip)))
   (.reg [] [⟨some 12, .move, [.t 4], none⟩,
     ⟨some 13, .bin .add, [.t 12, .k (.i 1)], none⟩,
     ⟨some 4, .move, [.t 13], none⟩] [1, 3, 4] [1, 5, 20])))
def c11l0 : AC := b11l0
theorem r11l0 (call lp s) : run call lp c11l0 s = run call lp b11l0 s := rfl
/-- spec.PiFree -/
def c11 : AC :=
 (.seq
  (.reg [] [⟨some 1, .box, [.t 0], none⟩,
    ⟨some 2, .move, [.k (.nils)], none⟩] [1] [1])
  (.seq
   (.reg [] [⟨some 5, .bslice 1 true, [], none⟩,
     ⟨some 3, .move, [.t 5], none⟩] [1, 3] [1, 5, 20])
   (.seq
    (.seq
     (.reg [] [⟨some 4, .move, [.k (.i 0)], none⟩] [1, 3, 4] [1, 5, 20])
     (.block 0
      (.loop [1, 3, 4] [1, 5, 20] c11l0)))
    (.seq
     (.reg [] [⟨some 21, .move, [.t 3], none⟩,
       ⟨some 2, .move, [.t 21], none⟩] [2] [5, 20])
     .ret))))
def a11 : AF := ⟨c11, [.tmp 2]⟩
def b12l0 : AC :=
 (.seq
  (.seq
   (.reg [] [⟨some 11, .move, [.t 5], none⟩,
     ⟨some 12, .move, [.t 0], none⟩,
     ⟨some 13, .len, [.t 12], none⟩,
     ⟨some 14, .bin .lt, [.t 11, .t 13], none⟩] [0, 1, 5, 14] [])
   (.cond (.t 14)
    .skip
    (.exit 0)))
  (.seq
   (.block 1
    (.seq
     (.reg [0, 1, 2, 3, 4, 5, 6, 7, 8] [⟨some 17, .move, [.t 0], none⟩,
       ⟨some 18, .move, [.t 5], none⟩,
       ⟨some 19, .iaddr 1, [.t 17, .t 18], none⟩,
       ⟨some 20, .load none false, [.t 19], none⟩,
       ⟨some 21, .move, [.t 1], none⟩,
       ⟨some 22, .move, [.t 5], none⟩,
       ⟨some 23, .iaddr 1, [.t 21, .t 22], none⟩,
       ⟨some 24, .load none false, [.t 23], none⟩,
       ⟨some 25, .bin .ne, [.t 20, .t 24], none⟩] [0, 1, 5, 25] [])
     (.cond (.t 25)
      (.seq
       (.reg [] [⟨some 4, .move, [.k (.b false)], none⟩] [4] [])
       .ret)
      .skip)))
   (.reg [] [⟨some 15, .move, [.t 5], none⟩,
     ⟨some 16, .bin .add, [.t 15, .k (.i 1)], none⟩,
     ⟨some 5, .move, [.t 16], none⟩] [0, 1, 5] [])))
def c12l0 : AC := b12l0
theorem r12l0 (call lp s) : run call lp c12l0 s = run call lp b12l0 s := rfl
/-- laws.mnInts -/
def c12 : AC :=
 (.seq
  (.reg [] [⟨some 4, .move, [.k (.b false)], none⟩] [0, 1] [])
  (.seq
   (.seq
    (.reg [] [⟨some 6, .move, [.t 0], none⟩,
      ⟨some 7, .len, [.t 6], none⟩,
      ⟨some 8, .move, [.t 1], none⟩,
      ⟨some 9, .len, [.t 8], none⟩,
      ⟨some 10, .bin .ne, [.t 7, .t 9], none⟩] [0, 1, 10] [])
    (.cond (.t 10)
     (.seq
      (.reg [] [⟨some 4, .move, [.k (.b false)], none⟩] [4] [])
      .ret)
     .skip))
   (.seq
    (.seq
     (.reg [] [⟨some 5, .move, [.k (.i 0)], none⟩] [0, 1, 5] [])
     (.block 0
      (.loop [0, 1, 5] [] c12l0)))
    (.seq
     (.reg [] [⟨some 4, .move, [.k (.b true)], none⟩] [4] [])
     .ret))))
def a12 : AF := ⟨c12, [.tmp 4]⟩
def b13l0 : AC :=
 (.seq
  (.seq
   (.reg [] [⟨some 4, .move, [.t 3], none⟩,
     ⟨some 5, .move, [.t 0], none⟩,
     ⟨some 6, .len, [.t 5], none⟩,
     ⟨some 7, .bin .lt, [.t 4, .t 6], none⟩] [0, 3, 7] [])
   (.cond (.t 7)
    .skip
    (.exit 0)))
  (.seq
   (.block 1
    (.seq
     (.reg [0, 1, 2, 3, 4, 5, 6, 7, 8, 9] [⟨some 10, .move, [.t 0], none⟩,
       ⟨some 11, .move, [.t 3], none⟩,
       ⟨some 12, .bin .sub, [.t 11, .k (.i 1)], none⟩,
       ⟨some 13, .iaddr 1, [.t 10, .t 12], none⟩,
       ⟨some 14, .load none false, [.t 13], none⟩,
       ⟨some 15, .move, [.t 0], none⟩,
       ⟨some 16, .move, [.t 3], none⟩,
       ⟨some 17, .iaddr 1, [.t 15, .t 16], none⟩,
       ⟨some 18, .load none false, [.t 17], none⟩,
       ⟨some 19, .bin .ge, [.t 14, .t 18], none⟩] [0, 3, 19] [])
     (.cond (.t 19)
      (.seq
       (.reg [] [⟨some 2, .move, [.k (.b false)], none⟩] [2] [])
       .ret)
      .skip)))
   (.reg [] [⟨some 8, .move, [.t 3], none⟩,
     ⟨some 9, .bin .add, [.t 8, .k (.i 1)], none⟩,
     ⟨some 3, .move, [.t 9], none⟩] [0, 3] [])))
def c13l0 : AC := b13l0
theorem r13l0 (call lp s) : run call lp c13l0 s = run call lp b13l0 s := rfl
/-- laws.mnRises -/
def c13 : AC :=
 (.seq
  (.reg [] [⟨some 2, .move, [.k (.b false)], none⟩] [0] [])
  (.seq
   (.seq
    (.reg [] [⟨some 3, .move, [.k (.i 1)], none⟩] [0, 3] [])
    (.block 0
     (.loop [0, 3] [] c13l0)))
   (.seq
    (.reg [] [⟨some 2, .move, [.k (.b true)], none⟩] [2] [])
    .ret)))
def a13 : AF := ⟨c13, [.tmp 2]⟩
def b15l0 : AC :=
 (.seq
  (.seq
   (.reg [] [⟨some 6, .move, [.t 5], none⟩,
     ⟨some 7, .move, [.t 0], none⟩,
     ⟨some 8, .len, [.t 7], none⟩,
     ⟨some 9, .bin .lt, [.t 6, .t 8], none⟩] [0, 1, 5, 9] [])
   (.cond (.t 9)
    .skip
    (.exit 0)))
  (.seq
   (.block 1
    (.seq
     (.reg [] [⟨some 12, .move, [.t 0], none⟩,
       ⟨some 13, .move, [.t 5], none⟩,
       ⟨some 14, .iaddr 1, [.t 12, .t 13], none⟩,
       ⟨some 15, .load none false, [.t 14], none⟩,
       ⟨some 16, .move, [.t 1], none⟩,
       ⟨some 17, .bin .eq, [.t 15, .t 16], none⟩] [0, 1, 5, 17] [])
     (.cond (.t 17)
      (.seq
       (.reg [] [⟨some 4, .move, [.k (.b true)], none⟩] [4] [])
       .ret)
      .skip)))
   (.reg [] [⟨some 10, .move, [.t 5], none⟩,
     ⟨some 11, .bin .add, [.t 10, .k (.i 1)], none⟩,
     ⟨some 5, .move, [.t 11], none⟩] [0, 1, 5] [])))
def c15l0 : AC := b15l0
theorem r15l0 (call lp s) : run call lp c15l0 s = run call lp b15l0 s := rfl
/-- laws.mnHas -/
def c15 : AC :=
 (.seq
  (.reg [] [⟨some 4, .move, [.k (.b false)], none⟩] [0, 1] [])
  (.seq
   (.seq
    (.reg [] [⟨some 5, .move, [.k (.i 0)], none⟩] [0, 1, 5] [])
    (.block 0
     (.loop [0, 1, 5] [] c15l0)))
   (.seq
    (.reg [] [⟨some 4, .move, [.k (.b false)], none⟩] [4] [])
    .ret)))
def a15 : AF := ⟨c15, [.tmp 4]⟩
def b3l0 : AC :=
 (.seq
  (.seq
   (.reg [] [⟨some 36, .move, [.t 9], none⟩,
     ⟨some 37, .bin .lt, [.t 36, .k (.i 30)], none⟩,
     ⟨some 38, .move, [.t 37], none⟩,
     ⟨some 39, .load (some 4) false, [.t 7], some (38, true)⟩,
     ⟨some 40, .call [] false, [.f 14, .t 39], some (38, true)⟩,
     ⟨some 41, .pick, [.t 38, .t 40, .k (.b false)], none⟩] [3, 4, 6, 7, 8, 9, 41] [3, 7, 14, 16, 32, 35])
   (.cond (.t 41)
    .skip
    (.exit 2)))
  (.seq
   (.block 3
    (.seq
     (.reg [] [⟨some 44, .move, [.t 8], none⟩,
       ⟨some 45, .move, [.t 9], none⟩,
       ⟨some 46, .call [] false, [.f 15, .t 44, .t 45], none⟩,
       ⟨some 47, .move, [.t 4], none⟩,
       ⟨some 48, .move, [.t 9], none⟩,
       ⟨some 49, .call [] false, [.f 15, .t 47, .t 48], none⟩,
       ⟨some 50, .move, [.t 49], none⟩,
       ⟨some 51, .move, [.t 9], some (50, true)⟩,
       ⟨some 52, .move, [.t 6], some (50, true)⟩,
       ⟨some 53, .bin .ne, [.t 51, .t 52], some (50, true)⟩,
       ⟨some 54, .pick, [.t 50, .t 53, .k (.b false)], none⟩,
       ⟨some 55, .bne, [.t 46, .t 54], none⟩] [3, 4, 6, 7, 8, 9, 55] [3, 7, 14, 16, 32, 35])
     (.cond (.t 55)
      (.seq
       (.reg [] [⟨some 2, .move, [.k (.b false)], none⟩] [2] [])
       .ret)
      .skip)))
   (.reg [] [⟨some 42, .move, [.t 9], none⟩,
     ⟨some 43, .bin .add, [.t 42, .k (.i 1)], none⟩,
     ⟨some 9, .move, [.t 43], none⟩] [3, 4, 6, 7, 8, 9] [3, 7, 14, 16, 32, 35])))
def c3l0 : AC := b3l0
theorem r3l0 (call lp s) : run call lp c3l0 s = run call lp b3l0 s := rfl
def b3l1 : AC :=
 (.seq
  (.seq
   (.reg [] [⟨some 26, .move, [.t 6], none⟩,
     ⟨some 27, .bin .lt, [.t 26, .k (.i 8)], none⟩] [3, 4, 6, 27] [3, 14, 16])
   (.cond (.t 27)
    .skip
    (.exit 0)))
  (.seq
   (.block 1
    (.seq
     (.reg [] [⟨some 30, .move, [.t 6], none⟩,
       ⟨some 31, .load (some 4) false, [.t 3], none⟩,
       ⟨some 32, .bslice 4 false, [.t 31], none⟩,
       ⟨some 33, .build [.i 0, .i 0, .i 0, .nils] [(0, 1), (1, 1), (3, 1)], [.k (.i 6), .t 30, .t 32], none⟩,
       ⟨some 7, .alloc [.i 0, .i 0, .i 0, .nils], [], none⟩,
       ⟨none, .store 4 true, [.t 7, .t 33], none⟩] [3, 4, 6, 7] [3, 7, 14, 16, 32])
     (.seq
      (.reg [] [⟨some 34, .load (some 4) false, [.t 7], none⟩,
        ⟨some 35, .call [] false, [.f 10, .t 34], none⟩,
        ⟨some 8, .move, [.t 35], none⟩] [3, 4, 6, 7, 8] [3, 7, 14, 16, 32, 35])
      (.seq
       (.reg [] [⟨some 9, .move, [.k (.i 0)], none⟩] [3, 4, 6, 7, 8, 9] [3, 7, 14, 16, 32, 35])
       (.block 2
        (.loop [3, 4, 6, 7, 8, 9] [3, 7, 14, 16, 32, 35] c3l0))))))
   (.reg [] [⟨some 28, .move, [.t 6], none⟩,
     ⟨some 29, .bin .add, [.t 28, .k (.i 1)], none⟩,
     ⟨some 6, .move, [.t 29], none⟩] [3, 4, 6] [3, 14, 16])))
def c3l1 : AC := b3l1
theorem r3l1 (call lp s) : run call lp c3l1 s = run call lp b3l1 s := rfl
/-- laws.FnPiFree -/
def c3 : AC :=
 (.seq
  (.reg [] [⟨some 2, .move, [.k (.b false)], none⟩] [0] [])
  (.seq
   (.seq
    (.reg [] [⟨some 10, .move, [.t 0], none⟩,
      ⟨some 11, .len, [.t 10], none⟩,
      ⟨some 12, .bin .gt, [.t 11, .k (.i 1048576)], none⟩] [0, 12] [])
    (.cond (.t 12)
     (.seq
      (.reg [] [⟨some 2, .move, [.k (.b true)], none⟩] [2] [])
      .ret)
     .skip))
   (.seq
    (.reg [] [⟨some 13, .move, [.t 0], none⟩,
      ⟨some 14, .call [] false, [.f 9, .t 13], none⟩,
      ⟨some 3, .alloc [.i 0, .i 0, .i 0, .nils], [], none⟩,
      ⟨none, .store 4 true, [.t 3, .t 14], none⟩] [3] [3, 14])
    (.seq
     (.reg [] [⟨some 15, .load (some 4) false, [.t 3], none⟩,
       ⟨some 16, .call [] true, [.f 10, .t 15], none⟩,
       ⟨some 4, .move, [.t 16], none⟩] [3, 4] [3, 14, 16])
     (.seq
      (.reg [] [⟨some 17, .load (some 4) false, [.t 3], none⟩,
        ⟨some 18, .call [] false, [.f 11, .t 17], none⟩,
        ⟨some 5, .move, [.t 18], none⟩] [3, 4, 5] [3, 14, 16, 18])
      (.seq
       (.seq
        (.reg [] [⟨some 19, .move, [.t 4], none⟩,
          ⟨some 20, .move, [.t 5], none⟩,
          ⟨some 21, .call [] false, [.f 12, .t 19, .t 20], none⟩,
          ⟨some 22, .not, [.t 21], none⟩] [3, 4, 22] [3, 14, 16])
        (.cond (.t 22)
         (.seq
          (.reg [] [⟨some 2, .move, [.k (.b false)], none⟩] [2] [])
          .ret)
         .skip))
       (.seq
        (.seq
         (.reg [] [⟨some 23, .move, [.t 4], none⟩,
           ⟨some 24, .call [] false, [.f 13, .t 23], none⟩,
           ⟨some 25, .not, [.t 24], none⟩] [3, 4, 25] [3, 14, 16])
         (.cond (.t 25)
          (.seq
           (.reg [] [⟨some 2, .move, [.k (.b false)], none⟩] [2] [])
           .ret)
          .skip))
        (.seq
         (.seq
          (.reg [] [⟨some 6, .move, [.k (.i 0)], none⟩] [3, 4, 6] [3, 14, 16])
          (.block 0
           (.loop [3, 4, 6] [3, 14, 16] c3l1)))
         (.seq
          (.reg [] [⟨some 2, .move, [.k (.b true)], none⟩] [2] [])
          .ret)))))))))
def a3 : AF := ⟨c3, [.tmp 2]⟩
theorem ok36 : okF Try.prog 36 a36 = true := by kernel_rfl
theorem ok53 : okF Try.prog 53 a53 = true := by kernel_rfl
theorem ok100 : okF Try.prog 100 a100 = true := by kernel_rfl
theorem ok78 : okF Try.prog 78 a78 = true := by kernel_rfl
theorem ok79 : okF Try.prog 79 a79 = true := by kernel_rfl
theorem ok37 : okF Try.prog 37 a37 = true := by kernel_rfl
theorem ok9 : okF Try.prog 9 a9 = true := by kernel_rfl
theorem ok41 : okF Try.prog 41 a41 = true := by kernel_rfl
theorem ok85 : okF Try.prog 85 a85 = true := by kernel_rfl
theorem ok102 : okF Try.prog 102 a102 = true := by kernel_rfl
theorem ok86 : okF Try.prog 86 a86 = true := by kernel_rfl
theorem ok87 : okF Try.prog 87 a87 = true := by kernel_rfl
theorem ok42 : okF Try.prog 42 a42 = true := by kernel_rfl
theorem ok14 : okF Try.prog 14 a14 = true := by kernel_rfl
theorem ok80 : okF Try.prog 80 a80 = true := by kernel_rfl
theorem ok81 : okF Try.prog 81 a81 = true := by kernel_rfl
theorem ok38 : okF Try.prog 38 a38 = true := by kernel_rfl
theorem ok10 : okF Try.prog 10 a10 = true := by kernel_rfl
theorem ok60 : okF Try.prog 60 a60 = true := by kernel_rfl
theorem ok101 : okF Try.prog 101 a101 = true := by kernel_rfl
theorem ok82 : okF Try.prog 82 a82 = true := by kernel_rfl
theorem ok39 : okF Try.prog 39 a39 = true := by kernel_rfl
theorem ok83 : okF Try.prog 83 a83 = true := by kernel_rfl
theorem ok84 : okF Try.prog 84 a84 = true := by kernel_rfl
theorem ok40 : okF Try.prog 40 a40 = true := by kernel_rfl
theorem ok11 : okF Try.prog 11 a11 = true := by kernel_rfl
theorem ok12 : okF Try.prog 12 a12 = true := by kernel_rfl
theorem ok13 : okF Try.prog 13 a13 = true := by kernel_rfl
theorem ok15 : okF Try.prog 15 a15 = true := by kernel_rfl
theorem ok3 : okF Try.prog 3 a3 = true := by kernel_rfl
def codes : Nat → Option AF
  | 36 => some a36
  | 53 => some a53
  | 100 => some a100
  | 78 => some a78
  | 79 => some a79
  | 37 => some a37
  | 9 => some a9
  | 41 => some a41
  | 85 => some a85
  | 102 => some a102
  | 86 => some a86
  | 87 => some a87
  | 42 => some a42
  | 14 => some a14
  | 80 => some a80
  | 81 => some a81
  | 38 => some a38
  | 10 => some a10
  | 60 => some a60
  | 101 => some a101
  | 82 => some a82
  | 39 => some a39
  | 83 => some a83
  | 84 => some a84
  | 40 => some a40
  | 11 => some a11
  | 12 => some a12
  | 13 => some a13
  | 15 => some a15
  | 3 => some a3
  | _ => none
def G : Prog := ⟨codes, fun _ => none⟩
@[simp] theorem g36 : G.code 36 = some a36 := rfl
@[simp] theorem g53 : G.code 53 = some a53 := rfl
@[simp] theorem g100 : G.code 100 = some a100 := rfl
@[simp] theorem g78 : G.code 78 = some a78 := rfl
@[simp] theorem g79 : G.code 79 = some a79 := rfl
@[simp] theorem g37 : G.code 37 = some a37 := rfl
@[simp] theorem g9 : G.code 9 = some a9 := rfl
@[simp] theorem g41 : G.code 41 = some a41 := rfl
@[simp] theorem g85 : G.code 85 = some a85 := rfl
@[simp] theorem g102 : G.code 102 = some a102 := rfl
@[simp] theorem g86 : G.code 86 = some a86 := rfl
@[simp] theorem g87 : G.code 87 = some a87 := rfl
@[simp] theorem g42 : G.code 42 = some a42 := rfl
@[simp] theorem g14 : G.code 14 = some a14 := rfl
@[simp] theorem g80 : G.code 80 = some a80 := rfl
@[simp] theorem g81 : G.code 81 = some a81 := rfl
@[simp] theorem g38 : G.code 38 = some a38 := rfl
@[simp] theorem g10 : G.code 10 = some a10 := rfl
@[simp] theorem g60 : G.code 60 = some a60 := rfl
@[simp] theorem g101 : G.code 101 = some a101 := rfl
@[simp] theorem g82 : G.code 82 = some a82 := rfl
@[simp] theorem g39 : G.code 39 = some a39 := rfl
@[simp] theorem g83 : G.code 83 = some a83 := rfl
@[simp] theorem g84 : G.code 84 = some a84 := rfl
@[simp] theorem g40 : G.code 40 = some a40 := rfl
@[simp] theorem g11 : G.code 11 = some a11 := rfl
@[simp] theorem g12 : G.code 12 = some a12 := rfl
@[simp] theorem g13 : G.code 13 = some a13 := rfl
@[simp] theorem g15 : G.code 15 = some a15 := rfl
@[simp] theorem g3 : G.code 3 = some a3 := rfl
@[simp] theorem gp (n : Nat) : G.prim n = none := rfl
theorem progOK : ProgOK Try.prog G := by
  refine ⟨by kernel_rfl, fun f af _ h => ?_, fun f p h => by cases h⟩
  simp only [G] at h
  unfold codes at h
  split at h
  · cases h; exact ok36
  · cases h; exact ok53
  · cases h; exact ok100
  · cases h; exact ok78
  · cases h; exact ok79
  · cases h; exact ok37
  · cases h; exact ok9
  · cases h; exact ok41
  · cases h; exact ok85
  · cases h; exact ok102
  · cases h; exact ok86
  · cases h; exact ok87
  · cases h; exact ok42
  · cases h; exact ok14
  · cases h; exact ok80
  · cases h; exact ok81
  · cases h; exact ok38
  · cases h; exact ok10
  · cases h; exact ok60
  · cases h; exact ok101
  · cases h; exact ok82
  · cases h; exact ok39
  · cases h; exact ok83
  · cases h; exact ok84
  · cases h; exact ok40
  · cases h; exact ok11
  · cases h; exact ok12
  · cases h; exact ok13
  · cases h; exact ok15
  · cases h; exact ok3
  · cases h
end Go.Am
end
