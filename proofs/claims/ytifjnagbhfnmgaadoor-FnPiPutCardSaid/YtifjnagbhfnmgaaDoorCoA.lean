/- The annotated code of the functions that the law reaches. -/
import Derived.Test.YtifjnagbhfnmgaaDoorAnC
import Derived.Test.YtifjnagbhfnmgaaDoorProg
import Derived.KernelRfl
import Derived.Test.YtifjnagbhfnmgaaDoorAnD
section
set_option maxRecDepth 100000
namespace Go.Am
open Go.Proofs
/-- spec.l6Open -/
def c32 : AC :=
 (.seq
  (.reg [] [⟨some 2, .move, [.k (.sc (.pointer none))], none⟩] [0] [7])
  (.seq
   (.seq
    (.reg [] [⟨some 3, .move, [.t 0], none⟩,
      ⟨some 4, .len, [.t 3], none⟩,
      ⟨some 5, .bin .gt, [.t 4, .k (.i 2000)], none⟩] [0, 5] [7])
    (.cond (.t 5)
     (.reg [] [⟨some 6, .move, [.t 0], none⟩,
       ⟨some 7, .slice 1 false true, [.t 6, .k (.i 2000)], none⟩,
       ⟨some 0, .move, [.t 7], none⟩] [0] [7])
     .skip))
   (.seq
    (.reg [] [⟨some 8, .move, [.t 0], none⟩,
      ⟨some 9, .build [.nils, .i 0] [(0, 1)], [.t 8], none⟩,
      ⟨some 10, .box, [.t 9], none⟩,
      ⟨some 2, .move, [.t 10], none⟩] [2] [7, 10])
    .ret)))
def a32 : AF := ⟨c32, [.tmp 2]⟩
/-- spec.l6Rd).pick -/
def c48 : AC :=
 (.seq
  (.reg [] [⟨some 4, .move, [.k (.i 0)], none⟩] [0, 1] [])
  (.seq
   (.reg [] [⟨some 7, .move, [.t 0], none⟩,
     ⟨some 8, .move, [.t 0], none⟩,
     ⟨some 9, .nck, [.t 8], none⟩,
     ⟨some 10, .faddr 1, [.t 9], none⟩,
     ⟨some 11, .load none false, [.t 10], none⟩,
     ⟨some 12, .bin .add, [.t 11, .k (.i 1)], none⟩,
     ⟨some 13, .nck, [.t 7], none⟩,
     ⟨some 14, .faddr 1, [.t 13], none⟩,
     ⟨none, .store 1 true, [.t 14, .t 12], none⟩] [0, 1] [])
   (.seq
    (.seq
     (.reg [] [⟨some 15, .move, [.t 1], none⟩,
       ⟨some 16, .bin .lt, [.t 15, .k (.i 1)], none⟩,
       ⟨some 17, .move, [.t 16], none⟩,
       ⟨some 18, .move, [.t 0], some (17, false)⟩,
       ⟨some 19, .nck, [.t 18], some (17, false)⟩,
       ⟨some 20, .faddr 0, [.t 19], some (17, false)⟩,
       ⟨some 21, .load none false, [.t 20], some (17, false)⟩,
       ⟨some 22, .len, [.t 21], some (17, false)⟩,
       ⟨some 23, .bin .eq, [.t 22, .k (.i 0)], some (17, false)⟩,
       ⟨some 24, .pick, [.t 17, .k (.b true), .t 23], none⟩] [0, 1, 24] [])
     (.cond (.t 24)
      (.seq
       (.reg [] [⟨some 4, .move, [.k (.i 0)], none⟩] [4] [])
       .ret)
      .skip))
    (.seq
     (.reg [] [⟨some 25, .move, [.t 0], none⟩,
       ⟨some 26, .nck, [.t 25], none⟩,
       ⟨some 27, .faddr 1, [.t 26], none⟩,
       ⟨some 28, .load none false, [.t 27], none⟩,
       ⟨some 29, .bin .sub, [.t 28, .k (.i 1)], none⟩,
       ⟨some 5, .move, [.t 29], none⟩] [0, 1, 5] [])
     (.seq
      (.seq
       (.reg [] [⟨some 30, .move, [.t 5], none⟩,
         ⟨some 31, .move, [.t 0], none⟩,
         ⟨some 32, .nck, [.t 31], none⟩,
         ⟨some 33, .faddr 0, [.t 32], none⟩,
         ⟨some 34, .load none false, [.t 33], none⟩,
         ⟨some 35, .len, [.t 34], none⟩,
         ⟨some 36, .bin .lt, [.t 30, .t 35], none⟩] [0, 1, 5, 36] [])
       (.cond (.t 36)
        (.seq
         (.reg [] [⟨some 37, .move, [.t 0], none⟩,
           ⟨some 38, .nck, [.t 37], none⟩,
           ⟨some 39, .faddr 0, [.t 38], none⟩,
           ⟨some 40, .load none false, [.t 39], none⟩,
           ⟨some 41, .move, [.t 5], none⟩,
           ⟨some 42, .iaddr 1, [.t 40, .t 41], none⟩,
           ⟨some 43, .load none false, [.t 42], none⟩,
           ⟨some 44, .conv .i64, [.t 43], none⟩,
           ⟨some 45, .move, [.t 1], none⟩,
           ⟨some 46, .bin .rem, [.t 44, .t 45], none⟩,
           ⟨some 4, .move, [.t 46], none⟩] [4] [])
         .ret)
        .skip))
      (.seq
       (.reg [0, 1, 2, 3, 4, 5, 6, 7, 8, 9, 10, 11, 12, 13, 14, 15, 16, 17, 18, 19, 20, 21, 22, 23, 24, 25, 26, 27, 28, 29, 30, 31, 32, 33, 34, 35, 36, 37, 38, 39, 40, 41, 42, 43, 44, 45] [⟨some 47, .move, [.t 0], none⟩,
         ⟨some 48, .nck, [.t 47], none⟩,
         ⟨some 49, .faddr 0, [.t 48], none⟩,
         ⟨some 50, .load none false, [.t 49], none⟩,
         ⟨some 51, .move, [.t 5], none⟩,
         ⟨some 52, .move, [.t 0], none⟩,
         ⟨some 53, .nck, [.t 52], none⟩,
         ⟨some 54, .faddr 0, [.t 53], none⟩,
         ⟨some 55, .load none false, [.t 54], none⟩,
         ⟨some 56, .len, [.t 55], none⟩,
         ⟨some 57, .bin .rem, [.t 51, .t 56], none⟩,
         ⟨some 58, .iaddr 1, [.t 50, .t 57], none⟩,
         ⟨some 59, .load none false, [.t 58], none⟩,
         ⟨some 60, .conv .i64, [.t 59], none⟩,
         ⟨some 61, .bin .mul, [.t 60, .k (.i 131)], none⟩,
         ⟨some 62, .move, [.t 0], none⟩,
         ⟨some 63, .nck, [.t 62], none⟩,
         ⟨some 64, .faddr 0, [.t 63], none⟩,
         ⟨some 65, .load none false, [.t 64], none⟩,
         ⟨some 66, .move, [.t 5], none⟩,
         ⟨some 67, .bin .mul, [.t 66, .k (.i 7)], none⟩,
         ⟨some 68, .bin .add, [.t 67, .k (.i 3)], none⟩,
         ⟨some 69, .move, [.t 0], none⟩,
         ⟨some 70, .nck, [.t 69], none⟩,
         ⟨some 71, .faddr 0, [.t 70], none⟩,
         ⟨some 72, .load none false, [.t 71], none⟩,
         ⟨some 73, .len, [.t 72], none⟩,
         ⟨some 74, .bin .rem, [.t 68, .t 73], none⟩,
         ⟨some 75, .iaddr 1, [.t 65, .t 74], none⟩,
         ⟨some 76, .load none false, [.t 75], none⟩,
         ⟨some 77, .conv .i64, [.t 76], none⟩,
         ⟨some 78, .bin .mul, [.t 77, .k (.i 1117)], none⟩,
         ⟨some 79, .bin .add, [.t 61, .t 78], none⟩,
         ⟨some 80, .move, [.t 5], none⟩,
         ⟨some 81, .bin .mul, [.t 80, .k (.i 29)], none⟩,
         ⟨some 82, .bin .add, [.t 79, .t 81], none⟩,
         ⟨some 83, .move, [.t 5], none⟩,
         ⟨some 84, .move, [.t 0], none⟩,
         ⟨some 85, .nck, [.t 84], none⟩,
         ⟨some 86, .faddr 0, [.t 85], none⟩,
         ⟨some 87, .load none false, [.t 86], none⟩,
         ⟨some 88, .len, [.t 87], none⟩,
         ⟨some 89, .bin .quo, [.t 83, .t 88], none⟩,
         ⟨some 90, .bin .mul, [.t 89, .k (.i 53)], none⟩,
         ⟨some 91, .bin .add, [.t 82, .t 90], none⟩,
         ⟨some 6, .move, [.t 91], none⟩] [1, 6] [])
       (.seq
        (.reg [] [⟨some 92, .move, [.t 6], none⟩,
          ⟨some 93, .move, [.t 6], none⟩,
          ⟨some 94, .bin .quo, [.t 93, .k (.i 64)], none⟩,
          ⟨some 95, .bin .xor, [.t 92, .t 94], none⟩,
          ⟨some 6, .move, [.t 95], none⟩] [1, 6] [])
        (.seq
         (.reg [] [⟨some 96, .move, [.t 6], none⟩,
           ⟨some 97, .move, [.t 1], none⟩,
           ⟨some 98, .bin .rem, [.t 96, .t 97], none⟩,
           ⟨some 4, .move, [.t 98], none⟩] [4] [])
         .ret))))))))
def a48 : AF := ⟨c48, [.tmp 4]⟩
/-- spec.l92Name -/
def c41 : AC :=
 (.seq
  (.reg [] [⟨some 2, .move, [.k (.i 0)], none⟩] [0] [])
  (.seq
   (.seq
    (.reg [] [⟨some 3, .move, [.t 0], none⟩,
      ⟨some 4, .call [] false, [.f 48, .t 3, .k (.i 60)], none⟩,
      ⟨some 5, .bin .eq, [.t 4, .k (.i 0)], none⟩] [0, 5] [])
    (.cond (.t 5)
     (.seq
      (.reg [] [⟨some 6, .bslice 1 true, [.k (.i (-1)), .k (.i 30), .k (.i 4611686018427387904)], none⟩,
        ⟨some 7, .move, [.t 0], none⟩,
        ⟨some 8, .call [] false, [.f 48, .t 7, .k (.i 3)], none⟩,
        ⟨some 9, .iaddr 1, [.t 6, .t 8], none⟩,
        ⟨some 10, .load none false, [.t 9], none⟩,
        ⟨some 2, .move, [.t 10], none⟩] [2] [])
      .ret)
     .skip))
   (.seq
    (.seq
     (.reg [] [⟨some 11, .move, [.t 0], none⟩,
       ⟨some 12, .call [] false, [.f 48, .t 11, .k (.i 25)], none⟩,
       ⟨some 13, .bin .eq, [.t 12, .k (.i 0)], none⟩] [0, 13] [])
     (.cond (.t 13)
      (.seq
       (.reg [] [⟨some 14, .move, [.t 0], none⟩,
         ⟨some 15, .call [] false, [.f 48, .t 14, .k (.i 30)], none⟩,
         ⟨some 2, .move, [.t 15], none⟩] [2] [])
       .ret)
      .skip))
    (.seq
     (.reg [] [⟨some 16, .move, [.t 0], none⟩,
       ⟨some 17, .call [] false, [.f 48, .t 16, .k (.i 4)], none⟩,
       ⟨some 2, .move, [.t 17], none⟩] [2] [])
     .ret))))
def a41 : AF := ⟨c41, [.tmp 2]⟩
/-- spec.l92Mobile -/
def c47 : AC :=
 (.seq
  (.reg [] [⟨some 4, .alloc [.i 0, .i 0, .i 0, .nils], [], none⟩] [0, 1, 4] [4, 34, 49, 58, 72, 86, 101, 113])
  (.seq
   (.seq
    (.reg [] [⟨some 16, .move, [.t 1], none⟩,
      ⟨some 17, .bin .eq, [.t 16, .k (.i 0)], none⟩] [0, 1, 4, 17] [4, 34, 49, 58, 72, 86, 101, 113])
    (.cond (.t 17)
     (.seq
      (.reg [] [⟨some 18, .build [.i 0, .i 0, .i 0, .nils] [], [], none⟩,
        ⟨none, .store 4 true, [.t 4, .t 18], none⟩] [4] [4, 34, 49, 58, 72, 86, 101, 113])
      .ret)
     .skip))
   (.seq
    (.reg [] [⟨some 19, .move, [.t 0], none⟩,
      ⟨some 20, .call [] false, [.f 48, .t 19, .k (.i 12)], none⟩,
      ⟨some 5, .move, [.t 20], none⟩] [0, 1, 4, 5] [4, 34, 49, 58, 72, 86, 101, 113])
    (.seq
     (.block 0
      (.seq
       (.reg [] [⟨some 22, .move, [.t 5], none⟩,
         ⟨some 23, .bin .lt, [.t 22, .k (.i 3)], none⟩,
         ⟨some 21, .move, [.t 23], none⟩] [0, 1, 4, 5, 21] [4, 34, 49, 58, 72, 86, 101, 113])
       (.cond (.t 21)
        (.seq
         (.reg [] [⟨some 24, .move, [.t 0], none⟩,
           ⟨some 25, .call [] false, [.f 41, .t 24], none⟩,
           ⟨some 26, .move, [.t 0], none⟩,
           ⟨some 27, .call [] false, [.f 41, .t 26], none⟩,
           ⟨some 6, .move, [.t 25], none⟩,
           ⟨some 7, .move, [.t 27], none⟩] [0, 1, 4, 6, 7] [4, 34, 49, 58, 72, 86, 101, 113])
         (.seq
          (.reg [] [⟨some 28, .move, [.t 6], none⟩,
            ⟨some 29, .move, [.t 7], none⟩,
            ⟨some 30, .move, [.t 0], none⟩,
            ⟨some 31, .move, [.t 1], none⟩,
            ⟨some 32, .bin .sub, [.t 31, .k (.i 1)], none⟩,
            ⟨some 33, .call [] false, [.f 47, .t 30, .t 32], none⟩,
            ⟨some 34, .bslice 4 true, [.t 33], none⟩,
            ⟨some 35, .build [.i 0, .i 0, .i 0, .nils] [(0, 1), (1, 1), (2, 1), (3, 1)], [.k (.i 1), .t 28, .t 29, .t 34], none⟩,
            ⟨none, .store 4 true, [.t 4, .t 35], none⟩] [4] [4, 34, 49, 58, 72, 86, 101, 113])
          .ret))
        (.seq
         (.reg [] [⟨some 37, .move, [.t 5], none⟩,
           ⟨some 38, .bin .lt, [.t 37, .k (.i 6)], none⟩,
           ⟨some 36, .move, [.t 38], none⟩] [0, 1, 4, 5, 36] [4, 34, 49, 58, 72, 86, 101, 113])
         (.cond (.t 36)
          (.seq
           (.reg [] [⟨some 39, .move, [.t 0], none⟩,
             ⟨some 40, .call [] false, [.f 41, .t 39], none⟩,
             ⟨some 41, .move, [.t 0], none⟩,
             ⟨some 42, .call [] false, [.f 41, .t 41], none⟩,
             ⟨some 8, .move, [.t 40], none⟩,
             ⟨some 9, .move, [.t 42], none⟩] [0, 1, 4, 8, 9] [4, 34, 49, 58, 72, 86, 101, 113])
           (.seq
            (.reg [] [⟨some 43, .move, [.t 8], none⟩,
              ⟨some 44, .move, [.t 9], none⟩,
              ⟨some 45, .move, [.t 0], none⟩,
              ⟨some 46, .move, [.t 1], none⟩,
              ⟨some 47, .bin .sub, [.t 46, .k (.i 1)], none⟩,
              ⟨some 48, .call [] false, [.f 47, .t 45, .t 47], none⟩,
              ⟨some 49, .bslice 4 true, [.t 48], none⟩,
              ⟨some 50, .build [.i 0, .i 0, .i 0, .nils] [(0, 1), (1, 1), (2, 1), (3, 1)], [.k (.i 2), .t 43, .t 44, .t 49], none⟩,
              ⟨none, .store 4 true, [.t 4, .t 50], none⟩] [4] [4, 34, 49, 58, 72, 86, 101, 113])
            .ret))
          (.seq
           (.reg [] [⟨some 52, .move, [.t 5], none⟩,
             ⟨some 53, .bin .eq, [.t 52, .k (.i 6)], none⟩,
             ⟨some 51, .move, [.t 53], none⟩] [0, 1, 4, 5, 51] [4, 34, 49, 58, 72, 86, 101, 113])
           (.cond (.t 51)
            (.seq
             (.reg [] [⟨some 54, .move, [.t 0], none⟩,
               ⟨some 55, .move, [.t 1], none⟩,
               ⟨some 56, .bin .sub, [.t 55, .k (.i 1)], none⟩,
               ⟨some 57, .call [] false, [.f 47, .t 54, .t 56], none⟩,
               ⟨some 58, .bslice 4 true, [.t 57], none⟩,
               ⟨some 59, .build [.i 0, .i 0, .i 0, .nils] [(0, 1), (3, 1)], [.k (.i 3), .t 58], none⟩,
               ⟨none, .store 4 true, [.t 4, .t 59], none⟩] [4] [4, 34, 49, 58, 72, 86, 101, 113])
             .ret)
            (.seq
             (.reg [] [⟨some 61, .move, [.t 5], none⟩,
               ⟨some 62, .bin .eq, [.t 61, .k (.i 7)], none⟩,
               ⟨some 60, .move, [.t 62], none⟩] [0, 1, 4, 5, 60] [4, 34, 49, 58, 72, 86, 101, 113])
             (.cond (.t 60)
              (.seq
               (.reg [] [⟨some 63, .move, [.t 0], none⟩,
                 ⟨some 64, .move, [.t 1], none⟩,
                 ⟨some 65, .bin .sub, [.t 64, .k (.i 1)], none⟩,
                 ⟨some 66, .call [] false, [.f 47, .t 63, .t 65], none⟩,
                 ⟨some 10, .alloc [.i 0, .i 0, .i 0, .nils], [], none⟩,
                 ⟨none, .store 4 true, [.t 10, .t 66], none⟩] [0, 1, 4, 10] [4, 10, 34, 49, 58, 66, 72, 86, 101, 113])
               (.seq
                (.reg [0, 1, 2, 3, 4, 6, 7, 8] [⟨some 67, .load (some 4) false, [.t 10], none⟩,
                  ⟨some 68, .move, [.t 0], none⟩,
                  ⟨some 69, .move, [.t 1], none⟩,
                  ⟨some 70, .bin .sub, [.t 69, .k (.i 1)], none⟩,
                  ⟨some 71, .call [] false, [.f 47, .t 68, .t 70], none⟩,
                  ⟨none, .chk (.load (some 4) false), [.t 67, .t 10], none⟩,
                  ⟨some 72, .bslice 4 true, [.t 67, .t 71], none⟩,
                  ⟨some 73, .build [.i 0, .i 0, .i 0, .nils] [(0, 1), (3, 1)], [.k (.i 4), .t 72], none⟩,
                  ⟨none, .store 4 true, [.t 4, .t 73], none⟩] [4] [4, 34, 49, 58, 72, 86, 101, 113])
                .ret))
              (.seq
               (.reg [] [⟨some 75, .move, [.t 5], none⟩,
                 ⟨some 76, .bin .lt, [.t 75, .k (.i 10)], none⟩,
                 ⟨some 74, .move, [.t 76], none⟩] [0, 1, 4, 5, 74] [4, 34, 49, 58, 72, 86, 101, 113])
               (.cond (.t 74)
                (.seq
                 (.reg [] [⟨some 77, .move, [.t 0], none⟩,
                   ⟨some 78, .move, [.t 1], none⟩,
                   ⟨some 79, .bin .sub, [.t 78, .k (.i 1)], none⟩,
                   ⟨some 80, .call [] false, [.f 47, .t 77, .t 79], none⟩,
                   ⟨some 11, .alloc [.i 0, .i 0, .i 0, .nils], [], none⟩,
                   ⟨none, .store 4 true, [.t 11, .t 80], none⟩] [0, 1, 4, 11] [4, 11, 34, 49, 58, 72, 80, 86, 101, 113])
                 (.seq
                  (.reg [0, 1, 2, 3, 4, 6, 7, 8] [⟨some 81, .load (some 4) false, [.t 11], none⟩,
                    ⟨some 82, .move, [.t 0], none⟩,
                    ⟨some 83, .move, [.t 1], none⟩,
                    ⟨some 84, .bin .sub, [.t 83, .k (.i 1)], none⟩,
                    ⟨some 85, .call [] false, [.f 47, .t 82, .t 84], none⟩,
                    ⟨none, .chk (.load (some 4) false), [.t 81, .t 11], none⟩,
                    ⟨some 86, .bslice 4 true, [.t 81, .t 85], none⟩,
                    ⟨some 87, .build [.i 0, .i 0, .i 0, .nils] [(0, 1), (3, 1)], [.k (.i 5), .t 86], none⟩,
                    ⟨none, .store 4 true, [.t 4, .t 87], none⟩] [4] [4, 34, 49, 58, 72, 86, 101, 113])
                  .ret))
                (.seq
                 (.reg [] [⟨some 89, .move, [.t 5], none⟩,
                   ⟨some 90, .bin .eq, [.t 89, .k (.i 10)], none⟩,
                   ⟨some 88, .move, [.t 90], none⟩] [0, 1, 4, 88] [4, 34, 49, 58, 72, 86, 101, 113])
                 (.cond (.t 88)
                  (.seq
                   (.reg [] [⟨some 91, .move, [.t 0], none⟩,
                     ⟨some 92, .call [] false, [.f 41, .t 91], none⟩,
                     ⟨some 93, .move, [.t 0], none⟩,
                     ⟨some 94, .call [] false, [.f 48, .t 93, .k (.i 3)], none⟩,
                     ⟨some 12, .move, [.t 92], none⟩,
                     ⟨some 13, .move, [.t 94], none⟩] [0, 1, 4, 12, 13] [4, 34, 49, 58, 72, 86, 101, 113])
                   (.seq
                    (.reg [] [⟨some 95, .move, [.t 12], none⟩,
                      ⟨some 96, .move, [.t 13], none⟩,
                      ⟨some 97, .move, [.t 0], none⟩,
                      ⟨some 98, .move, [.t 1], none⟩,
                      ⟨some 99, .bin .sub, [.t 98, .k (.i 1)], none⟩,
                      ⟨some 100, .call [] false, [.f 47, .t 97, .t 99], none⟩,
                      ⟨some 101, .bslice 4 true, [.t 100], none⟩,
                      ⟨some 102, .build [.i 0, .i 0, .i 0, .nils] [(0, 1), (1, 1), (2, 1), (3, 1)], [.k (.i 6), .t 95, .t 96, .t 101], none⟩,
                      ⟨none, .store 4 true, [.t 4, .t 102], none⟩] [4] [4, 34, 49, 58, 72, 86, 101, 113])
                    .ret))
                  .skip)))))))))))))
     (.seq
      (.reg [] [⟨some 103, .move, [.t 0], none⟩,
        ⟨some 104, .call [] false, [.f 41, .t 103], none⟩,
        ⟨some 105, .move, [.t 0], none⟩,
        ⟨some 106, .call [] false, [.f 41, .t 105], none⟩,
        ⟨some 14, .move, [.t 104], none⟩,
        ⟨some 15, .move, [.t 106], none⟩] [0, 1, 4, 14, 15] [4, 34, 49, 58, 72, 86, 101, 113])
      (.seq
       (.reg [] [⟨some 107, .move, [.t 14], none⟩,
         ⟨some 108, .move, [.t 15], none⟩,
         ⟨some 109, .move, [.t 0], none⟩,
         ⟨some 110, .move, [.t 1], none⟩,
         ⟨some 111, .bin .sub, [.t 110, .k (.i 1)], none⟩,
         ⟨some 112, .call [] false, [.f 47, .t 109, .t 111], none⟩,
         ⟨some 113, .bslice 4 true, [.t 112], none⟩,
         ⟨some 114, .build [.i 0, .i 0, .i 0, .nils] [(0, 1), (1, 1), (2, 1), (3, 1)], [.k (.i 7), .t 107, .t 108, .t 113], none⟩,
         ⟨none, .store 4 true, [.t 4, .t 114], none⟩] [4] [4, 34, 49, 58, 72, 86, 101, 113])
       .ret))))))
def a47 : AF := ⟨c47, [.cell 4 (some 4)]⟩
/-- spec.l92Meet -/
def c49 : AC :=
 (.seq
  (.reg [] [⟨some 2, .alloc [.i 0, .i 0, .i 0, .nils], [], none⟩] [0, 2] [2, 55, 59])
  (.seq
   (.reg [] [⟨some 8, .move, [.t 0], none⟩,
     ⟨some 9, .call [] false, [.f 48, .t 8, .k (.i 3)], none⟩,
     ⟨some 10, .move, [.t 0], none⟩,
     ⟨some 11, .call [] false, [.f 48, .t 10, .k (.i 5)], none⟩,
     ⟨some 12, .move, [.t 0], none⟩,
     ⟨some 13, .call [] false, [.f 48, .t 12, .k (.i 5)], none⟩,
     ⟨some 3, .move, [.t 9], none⟩,
     ⟨some 4, .move, [.t 11], none⟩,
     ⟨some 5, .move, [.t 13], none⟩] [0, 2, 3, 4, 5] [2, 55, 59])
   (.seq
    (.reg [] [⟨some 14, .move, [.t 3], none⟩,
      ⟨some 15, .move, [.t 4], none⟩,
      ⟨some 16, .move, [.t 0], none⟩,
      ⟨some 17, .move, [.t 0], none⟩,
      ⟨some 18, .call [] false, [.f 48, .t 17, .k (.i 2)], none⟩,
      ⟨some 19, .bin .add, [.k (.i 1), .t 18], none⟩,
      ⟨some 20, .call [] false, [.f 47, .t 16, .t 19], none⟩,
      ⟨some 21, .bslice 4 true, [.t 20], none⟩,
      ⟨some 22, .build [.i 0, .i 0, .i 0, .nils] [(0, 1), (1, 1), (2, 1), (3, 1)], [.k (.i 1), .t 14, .t 15, .t 21], none⟩,
      ⟨some 6, .alloc [.i 0, .i 0, .i 0, .nils], [], none⟩,
      ⟨none, .store 4 true, [.t 6, .t 22], none⟩] [0, 2, 3, 4, 5, 6] [2, 6, 21, 40, 55, 59])
    (.seq
     (.reg [] [⟨some 23, .move, [.t 3], none⟩,
       ⟨some 24, .move, [.t 5], none⟩,
       ⟨some 25, .move, [.t 0], none⟩,
       ⟨some 26, .move, [.t 0], none⟩,
       ⟨some 27, .call [] false, [.f 48, .t 26, .k (.i 2)], none⟩,
       ⟨some 28, .bin .add, [.k (.i 1), .t 27], none⟩,
       ⟨some 29, .call [] false, [.f 47, .t 25, .t 28], none⟩,
       ⟨some 30, .bslice 4 true, [.t 29], none⟩,
       ⟨some 31, .build [.i 0, .i 0, .i 0, .nils] [(0, 1), (1, 1), (2, 1), (3, 1)], [.k (.i 2), .t 23, .t 24, .t 30], none⟩,
       ⟨some 7, .alloc [.i 0, .i 0, .i 0, .nils], [], none⟩,
       ⟨none, .store 4 true, [.t 7, .t 31], none⟩] [0, 2, 4, 6, 7] [2, 6, 7, 21, 30, 40, 48, 55, 59])
     (.seq
      (.seq
       (.reg [] [⟨some 32, .move, [.t 0], none⟩,
         ⟨some 33, .call [] false, [.f 48, .t 32, .k (.i 4)], none⟩] [0, 2, 4, 6, 7, 33] [2, 6, 7, 21, 30, 40, 48, 55, 59])
       (.block 0
        (.seq
         (.reg [] [⟨some 35, .bin .eq, [.t 33, .k (.i 0)], none⟩,
           ⟨some 34, .move, [.t 35], none⟩] [0, 2, 4, 6, 7, 33, 34] [2, 6, 7, 21, 30, 40, 48, 55, 59])
         (.cond (.t 34)
          (.alt 2 4 3
           (.reg [0, 1, 3, 2, 5, 6, 7] [⟨some 36, .move, [.t 4], none⟩,
             ⟨some 37, .move, [.t 0], none⟩,
             ⟨some 39, .load (some 4) false, [.t 6], none⟩,
             ⟨some 38, .call [] false, [.f 48, .t 37, .k (.i 3)], none⟩,
             ⟨none, .chk (.load (some 4) false), [.t 39, .t 6], none⟩,
             ⟨some 40, .bslice 4 true, [.t 39], none⟩,
             ⟨some 41, .build [.i 0, .i 0, .i 0, .nils] [(0, 1), (1, 1), (2, 1), (3, 1)], [.k (.i 6), .t 36, .t 38, .t 40], none⟩,
             ⟨none, .store 4 true, [.t 6, .t 41], none⟩] [0, 2, 6, 7] [2, 6, 7, 21, 30, 40, 48, 55, 59])
           (.reg [0, 1, 4, 2, 3, 5, 6] [⟨some 36, .move, [.t 4], none⟩,
             ⟨some 37, .move, [.t 0], none⟩,
             ⟨some 39, .load (some 4) false, [.t 6], none⟩,
             ⟨some 40, .bslice 4 true, [.t 39], none⟩,
             ⟨some 38, .call [] false, [.f 48, .t 37, .k (.i 3)], none⟩,
             ⟨some 41, .build [.i 0, .i 0, .i 0, .nils] [(0, 1), (1, 1), (2, 1), (3, 1)], [.k (.i 6), .t 36, .t 38, .t 40], none⟩,
             ⟨none, .store 4 true, [.t 6, .t 41], none⟩] [0, 2, 6, 7] [2, 6, 7, 21, 30, 40, 48, 55, 59]))
          (.seq
           (.reg [] [⟨some 43, .bin .eq, [.t 33, .k (.i 1)], none⟩,
             ⟨some 42, .move, [.t 43], none⟩] [0, 2, 6, 7, 42] [2, 6, 7, 21, 30, 40, 48, 55, 59])
           (.cond (.t 42)
            (.reg [] [⟨some 44, .load (some 4) false, [.t 7], none⟩,
              ⟨some 45, .build [.i 0, .i 0, .i 0, .nils] [], [], none⟩,
              ⟨some 46, .bslice 4 true, [.t 45], none⟩,
              ⟨some 47, .build [.i 0, .i 0, .i 0, .nils] [(0, 1), (3, 1)], [.k (.i 3), .t 46], none⟩,
              ⟨some 48, .bslice 4 true, [.t 44, .t 47], none⟩,
              ⟨some 49, .build [.i 0, .i 0, .i 0, .nils] [(0, 1), (3, 1)], [.k (.i 4), .t 48], none⟩,
              ⟨none, .store 4 true, [.t 7, .t 49], none⟩] [0, 2, 6, 7] [2, 6, 7, 21, 30, 40, 48, 55, 59])
            .skip))))))
      (.seq
       (.seq
        (.reg [] [⟨some 50, .move, [.t 0], none⟩,
          ⟨some 51, .call [] false, [.f 48, .t 50, .k (.i 2)], none⟩,
          ⟨some 52, .bin .eq, [.t 51, .k (.i 0)], none⟩] [2, 6, 7, 52] [2, 6, 7, 21, 30, 40, 48, 55, 59])
        (.cond (.t 52)
         (.seq
          (.reg [] [⟨some 53, .load (some 4) false, [.t 6], none⟩,
            ⟨some 54, .load (some 4) false, [.t 7], none⟩,
            ⟨some 55, .bslice 4 true, [.t 53, .t 54], none⟩,
            ⟨some 56, .build [.i 0, .i 0, .i 0, .nils] [(0, 1), (3, 1)], [.k (.i 5), .t 55], none⟩,
            ⟨none, .store 4 true, [.t 2, .t 56], none⟩] [2] [2, 55, 59])
          .ret)
         .skip))
       (.seq
        (.reg [] [⟨some 57, .load (some 4) false, [.t 7], none⟩,
          ⟨some 58, .load (some 4) false, [.t 6], none⟩,
          ⟨some 59, .bslice 4 true, [.t 57, .t 58], none⟩,
          ⟨some 60, .build [.i 0, .i 0, .i 0, .nils] [(0, 1), (3, 1)], [.k (.i 5), .t 59], none⟩,
          ⟨none, .store 4 true, [.t 2, .t 60], none⟩] [2] [2, 55, 59])
        .ret)))))))
def a49 : AF := ⟨c49, [.cell 2 (some 4)]⟩
/-- spec.l92Pi -/
def c33 : AC :=
 (.seq
  (.reg [] [⟨some 2, .alloc [.i 0, .i 0, .i 0, .nils], [], none⟩] [0, 2] [2, 8, 13])
  (.seq
   (.reg [] [⟨some 4, .move, [.t 0], none⟩,
     ⟨some 5, .move, [.t 0], none⟩,
     ⟨some 6, .call [] false, [.f 48, .t 5, .k (.i 4)], none⟩,
     ⟨some 7, .bin .add, [.k (.i 1), .t 6], none⟩,
     ⟨some 8, .call [] false, [.f 47, .t 4, .t 7], none⟩,
     ⟨some 3, .alloc [.i 0, .i 0, .i 0, .nils], [], none⟩,
     ⟨none, .store 4 true, [.t 3, .t 8], none⟩] [0, 2, 3] [2, 3, 8, 13])
   (.seq
    (.seq
     (.reg [] [⟨some 9, .move, [.t 0], none⟩,
       ⟨some 10, .call [] false, [.f 48, .t 9, .k (.i 2)], none⟩,
       ⟨some 11, .bin .eq, [.t 10, .k (.i 0)], none⟩] [0, 2, 3, 11] [2, 3, 8, 13])
     (.cond (.t 11)
      (.reg [] [⟨some 12, .move, [.t 0], none⟩,
        ⟨some 13, .call [] false, [.f 49, .t 12], none⟩,
        ⟨none, .store 4 true, [.t 3, .t 13], none⟩] [0, 2, 3] [2, 3, 8, 13])
      .skip))
    (.seq
     (.seq
      (.reg [] [⟨some 14, .move, [.t 0], none⟩,
        ⟨some 15, .call [] false, [.f 48, .t 14, .k (.i 30)], none⟩,
        ⟨some 16, .bin .eq, [.t 15, .k (.i 0)], none⟩] [0, 2, 3, 16] [2, 3, 8, 13])
      (.cond (.t 16)
       (.reg [] [⟨some 17, .move, [.t 0], none⟩,
         ⟨some 18, .call [] false, [.f 48, .t 17, .k (.i 10)], none⟩,
         ⟨some 19, .faddr 0, [.t 3], none⟩,
         ⟨none, .store 1 true, [.t 19, .t 18], none⟩] [2, 3] [2, 3, 8, 13])
       .skip))
     (.seq
      (.reg [] [⟨some 20, .load (some 4) false, [.t 3], none⟩,
        ⟨none, .store 4 true, [.t 2, .t 20], none⟩] [2] [2, 8, 13])
      .ret)))))
def a33 : AF := ⟨c33, [.cell 2 (some 4)]⟩
/-- spec.DrawPiPut -/
def c23 : AC :=
 (.seq
  (.reg [] [⟨some 2, .alloc [.i 0, .i 0, .i 0, .nils], [], none⟩,
    ⟨some 3, .move, [.k (.i 0)], none⟩,
    ⟨some 4, .move, [.k (.i 0)], none⟩] [0, 2] [2, 10, 12])
  (.seq
   (.reg [] [⟨some 9, .move, [.t 0], none⟩,
     ⟨some 10, .call [] false, [.f 32, .t 9], none⟩,
     ⟨some 5, .move, [.t 10], none⟩] [2, 5] [2, 10, 12])
   (.seq
    (.reg [] [⟨some 11, .move, [.t 5], none⟩,
      ⟨some 12, .call [] false, [.f 33, .t 11], none⟩,
      ⟨some 6, .alloc [.i 0, .i 0, .i 0, .nils], [], none⟩,
      ⟨none, .store 4 true, [.t 6, .t 12], none⟩] [2, 5, 6] [2, 6, 10, 12])
    (.seq
     (.reg [] [⟨some 13, .move, [.t 5], none⟩,
       ⟨some 14, .call [] false, [.f 41, .t 13], none⟩,
       ⟨some 7, .move, [.t 14], none⟩] [2, 5, 6, 7] [2, 6, 10, 12])
     (.seq
      (.reg [] [⟨some 15, .move, [.t 5], none⟩,
        ⟨some 16, .call [] false, [.f 41, .t 15], none⟩,
        ⟨some 8, .move, [.t 16], none⟩] [2, 6, 7, 8] [2, 6, 10, 12])
      (.seq
       (.reg [] [⟨some 17, .load (some 4) false, [.t 6], none⟩,
         ⟨some 18, .move, [.t 7], none⟩,
         ⟨some 19, .move, [.t 8], none⟩,
         ⟨none, .store 4 true, [.t 2, .t 17], none⟩,
         ⟨some 3, .move, [.t 18], none⟩,
         ⟨some 4, .move, [.t 19], none⟩] [2, 3, 4] [2, 10, 12])
       .ret))))))
def a23 : AF := ⟨c23, [.cell 2 (some 4), .tmp 3, .tmp 4]⟩
def b34l0 : AC :=
 (.seq
  (.reg [] [⟨some 12, .bin .lt, [.t 11, .t 10], none⟩] [1, 5, 9, 10, 11, 12] [])
  (.seq
   (.cond (.t 12)
    .skip
    (.exit 0))
   (.seq
    (.block 1
     (.seq
      (.reg [] [⟨some 13, .iaddr 4, [.t 9, .t 11], none⟩,
        ⟨some 14, .load (some 4) false, [.t 13], none⟩,
        ⟨some 7, .alloc [.i 0, .i 0, .i 0, .nils], [], none⟩,
        ⟨none, .store 4 true, [.t 7, .t 14], none⟩] [1, 5, 7, 9, 10, 11] [7])
      (.seq
       (.seq
        (.reg [] [⟨some 15, .move, [.t 5], none⟩,
          ⟨some 16, .move, [.t 1], none⟩,
          ⟨some 17, .bin .gt, [.t 15, .t 16], none⟩] [1, 5, 7, 9, 10, 11, 17] [7])
        (.cond (.t 17)
         (.seq
          (.reg [] [⟨some 18, .move, [.t 5], none⟩,
            ⟨some 4, .move, [.t 18], none⟩] [4] [])
          .ret)
         .skip))
       (.reg [] [⟨some 19, .move, [.t 5], none⟩,
         ⟨some 20, .load (some 4) false, [.t 7], none⟩,
         ⟨some 21, .move, [.t 1], none⟩,
         ⟨some 22, .move, [.t 5], none⟩,
         ⟨some 23, .bin .sub, [.t 21, .t 22], none⟩,
         ⟨some 24, .call [] false, [.f 34, .t 20, .t 23], none⟩,
         ⟨some 25, .bin .add, [.t 19, .t 24], none⟩,
         ⟨some 5, .move, [.t 25], none⟩] [1, 5, 9, 10, 11] []))))
    (.reg [] [⟨some 26, .bin .add, [.t 11, .k (.i 1)], none⟩,
      ⟨some 11, .move, [.t 26], none⟩] [1, 5, 9, 10, 11] []))))
def c34l0 : AC := b34l0
theorem r34l0 (call lp s) : run call lp c34l0 s = run call lp b34l0 s := rfl
/-- impl.piNodes -/
def c34 : AC :=
 (.seq
  (.reg [] [⟨some 2, .box, [.t 0], none⟩,
    ⟨some 4, .move, [.k (.i 0)], none⟩] [1, 2] [2])
  (.seq
   (.reg [] [⟨some 5, .move, [.k (.i 1)], none⟩] [1, 2, 5] [2])
   (.seq
    (.seq
     (.reg [] [⟨some 8, .faddr 3, [.t 2], none⟩,
       ⟨some 9, .load none false, [.t 8], none⟩,
       ⟨some 10, .len, [.t 9], none⟩,
       ⟨some 11, .move, [.k (.i 0)], none⟩] [1, 5, 9, 10, 11] [])
     (.block 0
      (.loop [1, 5, 9, 10, 11] [] c34l0)))
    (.seq
     (.reg [] [⟨some 27, .move, [.t 5], none⟩,
       ⟨some 4, .move, [.t 27], none⟩] [4] [])
     .ret))))
def a34 : AF := ⟨c34, [.tmp 4]⟩
/-- impl.piName -/
def c38 : AC :=
 (.seq
  (.reg [] [⟨some 2, .move, [.k (.b false)], none⟩] [0] [])
  (.seq
   (.reg [] [⟨some 3, .move, [.t 0], none⟩,
     ⟨some 4, .bin .ge, [.t 3, .k (.i 0)], none⟩,
     ⟨some 5, .move, [.t 4], none⟩,
     ⟨some 6, .move, [.t 0], some (5, true)⟩,
     ⟨some 7, .bin .lt, [.t 6, .k (.i 30)], some (5, true)⟩,
     ⟨some 8, .pick, [.t 5, .t 7, .k (.b false)], none⟩,
     ⟨some 2, .move, [.t 8], none⟩] [2] [])
   .ret))
def a38 : AF := ⟨c38, [.tmp 2]⟩
def b61l0 : AC :=
 (.seq
  (.reg [] [⟨some 9, .bin .lt, [.t 8, .t 7], none⟩] [0, 1, 7, 8, 9] [])
  (.seq
   (.cond (.t 9)
    .skip
    (.exit 0))
   (.seq
    (.block 1
     (.seq
      (.reg [] [⟨some 10, .move, [.t 8], none⟩,
        ⟨some 5, .move, [.t 10], none⟩] [0, 1, 5, 7, 8] [])
      (.seq
       (.reg [] [⟨some 11, .move, [.t 1], none⟩,
         ⟨some 12, .move, [.t 0], none⟩,
         ⟨some 13, .move, [.t 5], none⟩,
         ⟨some 14, .iaddr 4, [.t 12, .t 13], none⟩,
         ⟨some 15, .load (some 4) false, [.t 14], none⟩,
         ⟨some 16, .call [] false, [.t 11, .t 15], none⟩] [0, 1, 5, 7, 8, 16] [])
       (.cond (.t 16)
        (.seq
         (.reg [] [⟨some 17, .move, [.t 5], none⟩,
           ⟨some 4, .move, [.t 17], none⟩] [4] [])
         .ret)
        .skip))))
    (.reg [] [⟨some 18, .bin .add, [.t 8, .k (.i 1)], none⟩,
      ⟨some 8, .move, [.t 18], none⟩] [0, 1, 7, 8] []))))
def c61l0 : AC := b61l0
theorem r61l0 (call lp s) : run call lp c61l0 s = run call lp b61l0 s := rfl
/-- impl.Pi] -/
def c61 : AC :=
 (.seq
  (.reg [] [⟨some 4, .move, [.k (.i 0)], none⟩] [0, 1] [])
  (.seq
   (.seq
    (.reg [] [⟨some 6, .move, [.t 0], none⟩,
      ⟨some 7, .len, [.t 6], none⟩,
      ⟨some 8, .move, [.k (.i 0)], none⟩] [0, 1, 7, 8] [])
    (.block 0
     (.loop [0, 1, 7, 8] [] c61l0)))
   (.seq
    (.reg [] [⟨some 4, .move, [.k (.i (-1))], none⟩] [4] [])
    .ret)))
def a61 : AF := ⟨c61, [.tmp 4]⟩
/-- impl.Pi] -/
def c50 : AC :=
 (.seq
  (.reg [] [⟨some 4, .move, [.k (.b false)], none⟩] [0, 1] [])
  (.seq
   (.reg [] [⟨some 5, .move, [.t 0], none⟩,
     ⟨some 6, .move, [.t 1], none⟩,
     ⟨some 7, .call [] false, [.f 61, .t 5, .t 6], none⟩,
     ⟨some 8, .bin .ge, [.t 7, .k (.i 0)], none⟩,
     ⟨some 4, .move, [.t 8], none⟩] [4] [])
   .ret))
def a50 : AF := ⟨c50, [.tmp 4]⟩
/-- impl.piShape$1 -/
def c51 : AC :=
 (.seq
  (.reg [] [⟨some 1, .box, [.t 0], none⟩,
    ⟨some 2, .move, [.k (.b false)], none⟩] [1] [1])
  (.seq
   (.reg [] [⟨some 3, .load (some 4) false, [.t 1], none⟩,
     ⟨some 4, .call [] false, [.f 35, .t 3], none⟩,
     ⟨some 5, .not, [.t 4], none⟩,
     ⟨some 2, .move, [.t 5], none⟩] [2] [])
   .ret))
def a51 : AF := ⟨c51, [.tmp 2]⟩
/-- impl.piShape -/
def c35 : AC :=
 (.seq
  (.reg [] [⟨some 1, .box, [.t 0], none⟩,
    ⟨some 2, .move, [.k (.b false)], none⟩] [1] [1])
  (.seq
   (.reg [] [⟨some 3, .move, [.k (.i 1)], none⟩] [1, 3] [1])
   (.seq
    (.seq
     (.reg [] [⟨some 4, .faddr 0, [.t 1], none⟩,
       ⟨some 5, .load none false, [.t 4], none⟩] [1, 3, 5] [1])
     (.block 0
      (.seq
       (.reg [] [⟨some 7, .bin .eq, [.t 5, .k (.i 0)], none⟩,
         ⟨some 6, .move, [.t 7], none⟩] [1, 3, 5, 6] [1])
       (.cond (.t 6)
        (.reg [] [⟨some 3, .move, [.k (.i 0)], none⟩] [1, 3] [1])
        (.seq
         (.seq
          (.reg [] [⟨some 9, .bin .eq, [.t 5, .k (.i 4)], none⟩,
            ⟨some 8, .move, [.t 9], none⟩] [1, 3, 5, 8] [1])
          (.cond (.t 8)
           .skip
           (.reg [] [⟨some 10, .bin .eq, [.t 5, .k (.i 5)], none⟩,
             ⟨some 8, .move, [.t 10], none⟩] [1, 3, 8] [1])))
         (.cond (.t 8)
          (.reg [] [⟨some 3, .move, [.k (.i 2)], none⟩] [1, 3] [1])
          .skip))))))
    (.seq
     (.seq
      (.reg [] [⟨some 11, .faddr 0, [.t 1], none⟩,
        ⟨some 12, .load none false, [.t 11], none⟩] [1, 3, 12] [1])
      (.block 1
       (.seq
        (.seq
         (.reg [] [⟨some 14, .bin .eq, [.t 12, .k (.i 0)], none⟩,
           ⟨some 13, .move, [.t 14], none⟩] [1, 3, 12, 13] [1])
         (.cond (.t 13)
          .skip
          (.seq
           (.reg [] [⟨some 15, .bin .eq, [.t 12, .k (.i 3)], none⟩,
             ⟨some 13, .move, [.t 15], none⟩] [1, 3, 12, 13] [1])
           (.cond (.t 13)
            .skip
            (.seq
             (.reg [] [⟨some 16, .bin .eq, [.t 12, .k (.i 4)], none⟩,
               ⟨some 13, .move, [.t 16], none⟩] [1, 3, 12, 13] [1])
             (.cond (.t 13)
              .skip
              (.reg [] [⟨some 17, .bin .eq, [.t 12, .k (.i 5)], none⟩,
                ⟨some 13, .move, [.t 17], none⟩] [1, 3, 12, 13] [1])))))))
        (.cond (.t 13)
         (.seq
          (.reg [] [⟨some 18, .faddr 1, [.t 1], none⟩,
            ⟨some 19, .load none false, [.t 18], none⟩,
            ⟨some 20, .bin .ne, [.t 19, .k (.i 0)], none⟩,
            ⟨some 21, .move, [.t 20], none⟩,
            ⟨some 22, .faddr 2, [.t 1], some (21, false)⟩,
            ⟨some 23, .load none false, [.t 22], some (21, false)⟩,
            ⟨some 24, .bin .ne, [.t 23, .k (.i 0)], some (21, false)⟩,
            ⟨some 25, .pick, [.t 21, .k (.b true), .t 24], none⟩] [1, 3, 25] [1])
          (.cond (.t 25)
           (.seq
            (.reg [] [⟨some 2, .move, [.k (.b false)], none⟩] [2] [])
            .ret)
           .skip))
         (.seq
          (.seq
           (.reg [] [⟨some 27, .bin .eq, [.t 12, .k (.i 1)], none⟩,
             ⟨some 26, .move, [.t 27], none⟩] [1, 3, 12, 26] [1])
           (.cond (.t 26)
            .skip
            (.seq
             (.reg [] [⟨some 28, .bin .eq, [.t 12, .k (.i 2)], none⟩,
               ⟨some 26, .move, [.t 28], none⟩] [1, 3, 12, 26] [1])
             (.cond (.t 26)
              .skip
              (.reg [] [⟨some 29, .bin .eq, [.t 12, .k (.i 7)], none⟩,
                ⟨some 26, .move, [.t 29], none⟩] [1, 3, 12, 26] [1])))))
          (.cond (.t 26)
           (.seq
            (.reg [] [⟨some 30, .faddr 1, [.t 1], none⟩,
              ⟨some 31, .load none false, [.t 30], none⟩,
              ⟨some 32, .call [] false, [.f 38, .t 31], none⟩,
              ⟨some 33, .not, [.t 32], none⟩,
              ⟨some 34, .move, [.t 33], none⟩,
              ⟨some 35, .faddr 2, [.t 1], some (34, false)⟩,
              ⟨some 36, .load none false, [.t 35], some (34, false)⟩,
              ⟨some 37, .call [] false, [.f 38, .t 36], some (34, false)⟩,
              ⟨some 38, .not, [.t 37], some (34, false)⟩,
              ⟨some 39, .pick, [.t 34, .k (.b true), .t 38], none⟩] [1, 3, 39] [1])
            (.cond (.t 39)
             (.seq
              (.reg [] [⟨some 2, .move, [.k (.b false)], none⟩] [2] [])
              .ret)
             .skip))
           (.seq
            (.reg [] [⟨some 41, .bin .eq, [.t 12, .k (.i 6)], none⟩,
              ⟨some 40, .move, [.t 41], none⟩] [1, 3, 40] [1])
            (.cond (.t 40)
             (.seq
              (.reg [] [⟨some 42, .faddr 1, [.t 1], none⟩,
                ⟨some 43, .load none false, [.t 42], none⟩,
                ⟨some 44, .call [] false, [.f 38, .t 43], none⟩,
                ⟨some 45, .not, [.t 44], none⟩,
                ⟨some 46, .move, [.t 45], none⟩,
                ⟨some 47, .faddr 2, [.t 1], some (46, false)⟩,
                ⟨some 48, .load none false, [.t 47], some (46, false)⟩,
                ⟨some 49, .bin .lt, [.t 48, .k (.i 0)], some (46, false)⟩,
                ⟨some 50, .pick, [.t 46, .k (.b true), .t 49], none⟩,
                ⟨some 51, .move, [.t 50], none⟩,
                ⟨some 52, .faddr 2, [.t 1], some (51, false)⟩,
                ⟨some 53, .load none false, [.t 52], some (51, false)⟩,
                ⟨some 54, .bin .ge, [.t 53, .k (.i 3)], some (51, false)⟩,
                ⟨some 55, .pick, [.t 51, .k (.b true), .t 54], none⟩] [1, 3, 55] [1])
              (.cond (.t 55)
               (.seq
                (.reg [] [⟨some 2, .move, [.k (.b false)], none⟩] [2] [])
                .ret)
               .skip))
             (.seq
              (.reg [] [⟨some 2, .move, [.k (.b false)], none⟩] [2] [])
              .ret)))))))))
     (.seq
      (.reg [] [⟨some 56, .faddr 3, [.t 1], none⟩,
        ⟨some 57, .load none false, [.t 56], none⟩,
        ⟨some 58, .len, [.t 57], none⟩,
        ⟨some 59, .move, [.t 3], none⟩,
        ⟨some 60, .bin .eq, [.t 58, .t 59], none⟩,
        ⟨some 61, .move, [.t 60], none⟩,
        ⟨some 62, .faddr 3, [.t 1], some (61, true)⟩,
        ⟨some 63, .load none false, [.t 62], some (61, true)⟩,
        ⟨some 64, .call [] false, [.f 50, .t 63, .f 51], some (61, true)⟩,
        ⟨some 65, .not, [.t 64], some (61, true)⟩,
        ⟨some 66, .pick, [.t 61, .t 65, .k (.b false)], none⟩,
        ⟨some 2, .move, [.t 66], none⟩] [2] [])
      .ret)))))
def a35 : AF := ⟨c35, [.tmp 2]⟩
/-- impl.PiOk -/
def c17 : AC :=
 (.seq
  (.reg [] [⟨some 1, .box, [.t 0], none⟩,
    ⟨some 2, .move, [.k (.b false)], none⟩] [1] [1])
  (.seq
   (.reg [] [⟨some 3, .load (some 4) false, [.t 1], none⟩,
     ⟨some 4, .call [] false, [.f 34, .t 3, .k (.i 14)], none⟩,
     ⟨some 5, .bin .le, [.t 4, .k (.i 14)], none⟩,
     ⟨some 6, .move, [.t 5], none⟩,
     ⟨some 7, .load (some 4) false, [.t 1], some (6, true)⟩,
     ⟨some 8, .call [] false, [.f 35, .t 7], some (6, true)⟩,
     ⟨some 9, .pick, [.t 6, .t 8, .k (.b false)], none⟩,
     ⟨some 2, .move, [.t 9], none⟩] [2] [])
   .ret))
def a17 : AF := ⟨c17, [.tmp 2]⟩
/-- impl.putName -/
def c52 : AC :=
 (.seq
  (.reg [] [⟨some 6, .move, [.k (.i 0)], none⟩] [0, 1, 2] [])
  (.seq
   (.seq
    (.reg [] [⟨some 7, .move, [.t 0], none⟩,
      ⟨some 8, .move, [.t 1], none⟩,
      ⟨some 9, .bin .eq, [.t 7, .t 8], none⟩] [0, 2, 9] [])
    (.cond (.t 9)
     (.seq
      (.reg [] [⟨some 10, .move, [.t 2], none⟩,
        ⟨some 6, .move, [.t 10], none⟩] [6] [])
      .ret)
     .skip))
   (.seq
    (.reg [] [⟨some 11, .move, [.t 0], none⟩,
      ⟨some 6, .move, [.t 11], none⟩] [6] [])
    .ret)))
def a52 : AF := ⟨c52, [.tmp 6]⟩
/-- impl.binds -/
def c53 : AC :=
 (.seq
  (.reg [] [⟨some 1, .box, [.t 0], none⟩,
    ⟨some 2, .move, [.k (.i 0)], none⟩] [1] [1])
  (.seq
   (.seq
    (.reg [] [⟨some 3, .faddr 0, [.t 1], none⟩,
      ⟨some 4, .load none false, [.t 3], none⟩] [1, 4] [1])
    (.block 0
     (.seq
      (.reg [] [⟨some 6, .bin .eq, [.t 4, .k (.i 2)], none⟩,
        ⟨some 5, .move, [.t 6], none⟩] [1, 4, 5] [1])
      (.cond (.t 5)
       (.seq
        (.reg [] [⟨some 7, .faddr 2, [.t 1], none⟩,
          ⟨some 8, .load none false, [.t 7], none⟩,
          ⟨some 2, .move, [.t 8], none⟩] [2] [])
        .ret)
       (.seq
        (.reg [] [⟨some 10, .bin .eq, [.t 4, .k (.i 6)], none⟩,
          ⟨some 9, .move, [.t 10], none⟩] [1, 9] [1])
        (.cond (.t 9)
         (.seq
          (.reg [] [⟨some 11, .faddr 1, [.t 1], none⟩,
            ⟨some 12, .load none false, [.t 11], none⟩,
            ⟨some 2, .move, [.t 12], none⟩] [2] [])
          .ret)
         .skip))))))
   (.seq
    (.reg [] [⟨some 2, .move, [.k (.i (-1))], none⟩] [2] [])
    .ret)))
def a53 : AF := ⟨c53, [.tmp 2]⟩
/-- impl.uses -/
def c55 : AC :=
 (.seq
  (.reg [] [⟨some 1, .box, [.t 0], none⟩,
    ⟨some 2, .move, [.k (.nils)], none⟩] [1] [1])
  (.seq
   (.seq
    (.reg [] [⟨some 3, .faddr 0, [.t 1], none⟩,
      ⟨some 4, .load none false, [.t 3], none⟩] [1, 4] [1])
    (.block 0
     (.seq
      (.seq
       (.reg [] [⟨some 6, .bin .eq, [.t 4, .k (.i 1)], none⟩,
         ⟨some 5, .move, [.t 6], none⟩] [1, 4, 5] [1])
       (.cond (.t 5)
        .skip
        (.reg [] [⟨some 7, .bin .eq, [.t 4, .k (.i 7)], none⟩,
          ⟨some 5, .move, [.t 7], none⟩] [1, 4, 5] [1])))
      (.cond (.t 5)
       (.seq
        (.reg [] [⟨some 8, .faddr 1, [.t 1], none⟩,
          ⟨some 9, .load none false, [.t 8], none⟩,
          ⟨some 10, .faddr 2, [.t 1], none⟩,
          ⟨some 11, .load none false, [.t 10], none⟩,
          ⟨some 12, .bslice 1 true, [.t 9, .t 11], none⟩,
          ⟨some 2, .move, [.t 12], none⟩] [2] [12, 17])
        .ret)
       (.seq
        (.reg [] [⟨some 14, .bin .eq, [.t 4, .k (.i 2)], none⟩,
          ⟨some 13, .move, [.t 14], none⟩] [1, 13] [1])
        (.cond (.t 13)
         (.seq
          (.reg [] [⟨some 15, .faddr 1, [.t 1], none⟩,
            ⟨some 16, .load none false, [.t 15], none⟩,
            ⟨some 17, .bslice 1 true, [.t 16], none⟩,
            ⟨some 2, .move, [.t 17], none⟩] [2] [12, 17])
          .ret)
         .skip))))))
   (.seq
    (.reg [] [⟨some 2, .move, [.k (.nils)], none⟩] [2] [12, 17])
    .ret)))
def a55 : AF := ⟨c55, [.tmp 2]⟩
def b40l0 : AC :=
 (.seq
  (.reg [] [⟨some 22, .bin .lt, [.t 21, .k (.i 30)], none⟩] [1, 2, 3, 13, 14, 15, 20, 21, 22] [1, 2, 3])
  (.seq
   (.cond (.t 22)
    .skip
    (.exit 2))
   (.seq
    (.block 3
     (.seq
      (.reg [] [⟨some 23, .move, [.t 21], none⟩,
        ⟨some 24, .idx none 1 30, [.t 20, .t 21], none⟩,
        ⟨some 6, .move, [.t 23], none⟩,
        ⟨some 7, .move, [.t 24], none⟩] [1, 2, 3, 6, 7, 13, 14, 15, 20, 21] [1, 2, 3])
      (.reg [] [⟨some 25, .move, [.t 6], none⟩,
        ⟨some 26, .move, [.t 6], none⟩,
        ⟨some 27, .iarr 1 30, [.t 3, .t 26], none⟩,
        ⟨some 28, .load none false, [.t 27], none⟩,
        ⟨some 29, .move, [.t 28], none⟩,
        ⟨some 30, .move, [.t 7], some (29, false)⟩,
        ⟨some 31, .pick, [.t 29, .k (.b true), .t 30], none⟩,
        ⟨some 32, .iarr 1 30, [.t 3, .t 25], none⟩,
        ⟨none, .store 1 true, [.t 32, .t 31], none⟩] [1, 2, 3, 13, 14, 15, 20, 21] [1, 2, 3])))
    (.reg [] [⟨some 33, .bin .add, [.t 21, .k (.i 1)], none⟩,
      ⟨some 21, .move, [.t 33], none⟩] [1, 2, 3, 13, 14, 15, 20, 21] [1, 2, 3]))))
def c40l0 : AC := b40l0
theorem r40l0 (call lp s) : run call lp c40l0 s = run call lp b40l0 s := rfl
def b40l1 : AC :=
 (.seq
  (.reg [] [⟨some 16, .bin .lt, [.t 15, .t 14], none⟩] [1, 2, 3, 13, 14, 15, 16] [1, 2, 3])
  (.seq
   (.cond (.t 16)
    .skip
    (.exit 0))
   (.seq
    (.block 1
     (.seq
      (.reg [] [⟨some 17, .iaddr 4, [.t 13, .t 15], none⟩,
        ⟨some 18, .load (some 4) false, [.t 17], none⟩,
        ⟨some 5, .alloc [.i 0, .i 0, .i 0, .nils], [], none⟩,
        ⟨none, .store 4 true, [.t 5, .t 18], none⟩] [1, 2, 3, 5, 13, 14, 15] [1, 2, 3, 5])
      (.seq
       (.reg [] [⟨some 19, .load (some 4) false, [.t 5], none⟩,
         ⟨some 20, .call [] false, [.f 40, .t 19], none⟩,
         ⟨some 21, .move, [.k (.i 0)], none⟩] [1, 2, 3, 13, 14, 15, 20, 21] [1, 2, 3])
       (.block 2
        (.loop [1, 2, 3, 13, 14, 15, 20, 21] [1, 2, 3] c40l0)))))
    (.reg [] [⟨some 34, .bin .add, [.t 15, .k (.i 1)], none⟩,
      ⟨some 15, .move, [.t 34], none⟩] [1, 2, 3, 13, 14, 15] [1, 2, 3]))))
def c40l1 : AC := b40l1
theorem r40l1 (call lp s) : run call lp c40l1 s = run call lp b40l1 s := rfl
def b40l2 : AC :=
 (.seq
  (.reg [] [⟨some 45, .bin .lt, [.t 44, .t 43], none⟩] [2, 3, 42, 43, 44, 45] [2, 3, 42])
  (.seq
   (.cond (.t 45)
    .skip
    (.exit 4))
   (.seq
    (.block 5
     (.seq
      (.reg [] [⟨some 46, .iaddr 1, [.t 42, .t 44], none⟩,
        ⟨some 47, .load none false, [.t 46], none⟩,
        ⟨some 10, .move, [.t 47], none⟩] [2, 3, 10, 42, 43, 44] [2, 3, 42])
      (.reg [] [⟨some 48, .move, [.t 10], none⟩,
        ⟨some 49, .iarr 1 30, [.t 3, .t 48], none⟩,
        ⟨none, .store 1 true, [.t 49, .k (.b true)], none⟩] [2, 3, 42, 43, 44] [2, 3, 42])))
    (.reg [] [⟨some 50, .bin .add, [.t 44, .k (.i 1)], none⟩,
      ⟨some 44, .move, [.t 50], none⟩] [2, 3, 42, 43, 44] [2, 3, 42]))))
def c40l2 : AC := b40l2
theorem r40l2 (call lp s) : run call lp c40l2 s = run call lp b40l2 s := rfl
/-- impl.free -/
def c40 : AC :=
 (.seq
  (.reg [] [⟨some 1, .box, [.t 0], none⟩,
    ⟨some 2, .alloc [.b false, .b false, .b false, .b false, .b false, .b false, .b false, .b false, .b false, .b false, .b false, .b false, .b false, .b false, .b false, .b false, .b false, .b false, .b false, .b false, .b false, .b false, .b false, .b false, .b false, .b false, .b false, .b false, .b false, .b false], [], none⟩] [1, 2] [1, 2])
  (.seq
   (.reg [] [⟨some 11, .build [.b false, .b false, .b false, .b false, .b false, .b false, .b false, .b false, .b false, .b false, .b false, .b false, .b false, .b false, .b false, .b false, .b false, .b false, .b false, .b false, .b false, .b false, .b false, .b false, .b false, .b false, .b false, .b false, .b false, .b false] [], [], none⟩,
     ⟨some 3, .alloc [.b false, .b false, .b false, .b false, .b false, .b false, .b false, .b false, .b false, .b false, .b false, .b false, .b false, .b false, .b false, .b false, .b false, .b false, .b false, .b false, .b false, .b false, .b false, .b false, .b false, .b false, .b false, .b false, .b false, .b false], [], none⟩,
     ⟨none, .store 30 true, [.t 3, .t 11], none⟩] [1, 2, 3] [1, 2, 3])
   (.seq
    (.seq
     (.reg [] [⟨some 12, .faddr 3, [.t 1], none⟩,
       ⟨some 13, .load none false, [.t 12], none⟩,
       ⟨some 14, .len, [.t 13], none⟩,
       ⟨some 15, .move, [.k (.i 0)], none⟩] [1, 2, 3, 13, 14, 15] [1, 2, 3])
     (.block 0
      (.loop [1, 2, 3, 13, 14, 15] [1, 2, 3] c40l1)))
    (.seq
     (.seq
      (.reg [] [⟨some 35, .load (some 4) false, [.t 1], none⟩,
        ⟨some 36, .call [] false, [.f 53, .t 35], none⟩,
        ⟨some 8, .move, [.t 36], none⟩] [1, 2, 3, 8] [1, 2, 3])
      (.seq
       (.reg [] [⟨some 37, .move, [.t 8], none⟩,
         ⟨some 38, .bin .ge, [.t 37, .k (.i 0)], none⟩] [1, 2, 3, 8, 38] [1, 2, 3])
       (.cond (.t 38)
        (.reg [] [⟨some 39, .move, [.t 8], none⟩,
          ⟨some 40, .iarr 1 30, [.t 3, .t 39], none⟩,
          ⟨none, .store 1 true, [.t 40, .k (.b false)], none⟩] [1, 2, 3] [1, 2, 3])
        .skip)))
     (.seq
      (.seq
       (.reg [] [⟨some 41, .load (some 4) false, [.t 1], none⟩,
         ⟨some 42, .call [] false, [.f 55, .t 41], none⟩,
         ⟨some 43, .len, [.t 42], none⟩,
         ⟨some 44, .move, [.k (.i 0)], none⟩] [2, 3, 42, 43, 44] [2, 3, 42])
       (.block 4
        (.loop [2, 3, 42, 43, 44] [2, 3, 42] c40l2)))
      (.seq
       (.reg [] [⟨some 51, .load (some 30) false, [.t 3], none⟩,
         ⟨none, .store 30 true, [.t 2, .t 51], none⟩] [2] [2])
       .ret))))))
def a40 : AF := ⟨c40, [.cell 2 (some 30)]⟩
def b54l0 : AC :=
 (.seq
  (.reg [] [⟨some 17, .bin .lt, [.t 16, .t 15], none⟩] [2, 3, 14, 15, 16, 17] [2, 3, 25])
  (.seq
   (.cond (.t 17)
    .skip
    (.exit 0))
   (.seq
    (.block 1
     (.seq
      (.reg [] [⟨some 18, .iaddr 4, [.t 14, .t 16], none⟩,
        ⟨some 19, .load (some 4) false, [.t 18], none⟩,
        ⟨some 5, .alloc [.i 0, .i 0, .i 0, .nils], [], none⟩,
        ⟨none, .store 4 true, [.t 5, .t 19], none⟩] [2, 3, 5, 14, 15, 16] [2, 3, 5, 25])
      (.reg [0, 1, 2, 3, 6, 9, 10, 11] [⟨some 20, .faddr 3, [.t 3], none⟩,
        ⟨some 21, .load none false, [.t 20], none⟩,
        ⟨some 22, .load (some 4) false, [.t 5], none⟩,
        ⟨some 23, .call [] false, [.f 54, .t 22], none⟩,
        ⟨none, .chk (.faddr 3), [.t 20, .t 3], none⟩,
        ⟨none, .chk (.load none false), [.t 21, .t 20], none⟩,
        ⟨some 24, .bslice 4 true, [.t 23], none⟩,
        ⟨none, .chk (.faddr 3), [.t 20, .t 3], none⟩,
        ⟨none, .chk (.load none false), [.t 21, .t 20], none⟩,
        ⟨some 25, .append 4 true, [.t 21, .t 24], none⟩,
        ⟨some 26, .faddr 3, [.t 3], none⟩,
        ⟨none, .store 1 true, [.t 26, .t 25], none⟩] [2, 3, 14, 15, 16] [2, 3, 25])))
    (.reg [] [⟨some 27, .bin .add, [.t 16, .k (.i 1)], none⟩,
      ⟨some 16, .move, [.t 27], none⟩] [2, 3, 14, 15, 16] [2, 3, 25]))))
def c54l0 : AC := b54l0
theorem r54l0 (call lp s) : run call lp c54l0 s = run call lp b54l0 s := rfl
/-- impl.copyPi -/
def c54 : AC :=
 (.seq
  (.reg [] [⟨some 1, .box, [.t 0], none⟩,
    ⟨some 2, .alloc [.i 0, .i 0, .i 0, .nils], [], none⟩] [1, 2] [1, 2, 25])
  (.seq
   (.reg [] [⟨some 6, .faddr 0, [.t 1], none⟩,
     ⟨some 7, .load none false, [.t 6], none⟩,
     ⟨some 8, .faddr 1, [.t 1], none⟩,
     ⟨some 9, .load none false, [.t 8], none⟩,
     ⟨some 10, .faddr 2, [.t 1], none⟩,
     ⟨some 11, .load none false, [.t 10], none⟩,
     ⟨some 12, .build [.i 0, .i 0, .i 0, .nils] [(0, 1), (1, 1), (2, 1)], [.t 7, .t 9, .t 11], none⟩,
     ⟨some 3, .alloc [.i 0, .i 0, .i 0, .nils], [], none⟩,
     ⟨none, .store 4 true, [.t 3, .t 12], none⟩] [1, 2, 3] [1, 2, 3, 25])
   (.seq
    (.seq
     (.reg [] [⟨some 13, .faddr 3, [.t 1], none⟩,
       ⟨some 14, .load none false, [.t 13], none⟩,
       ⟨some 15, .len, [.t 14], none⟩,
       ⟨some 16, .move, [.k (.i 0)], none⟩] [2, 3, 14, 15, 16] [2, 3, 25])
     (.block 0
      (.loop [2, 3, 14, 15, 16] [2, 3, 25] c54l0)))
    (.seq
     (.reg [] [⟨some 28, .load (some 4) false, [.t 3], none⟩,
       ⟨none, .store 4 true, [.t 2, .t 28], none⟩] [2] [2, 25])
     .ret))))
def a54 : AF := ⟨c54, [.cell 2 (some 4)]⟩
def b39l0 : AC :=
 (.seq
  (.reg [] [⟨some 54, .bin .lt, [.t 53, .t 52], none⟩] [1, 2, 6, 7, 51, 52, 53, 54] [6, 7, 64, 84, 122])
  (.seq
   (.cond (.t 54)
    .skip
    (.exit 1))
   (.seq
    (.block 2
     (.seq
      (.reg [] [⟨some 55, .iaddr 4, [.t 51, .t 53], none⟩,
        ⟨some 56, .load (some 4) false, [.t 55], none⟩,
        ⟨some 10, .alloc [.i 0, .i 0, .i 0, .nils], [], none⟩,
        ⟨none, .store 4 true, [.t 10, .t 56], none⟩] [1, 2, 6, 7, 10, 51, 52, 53] [6, 7, 10, 64, 84, 122])
      (.reg [0, 1, 2, 3, 4, 5, 8, 11, 12, 13] [⟨some 57, .faddr 3, [.t 7], none⟩,
        ⟨some 58, .load none false, [.t 57], none⟩,
        ⟨some 59, .load (some 4) false, [.t 10], none⟩,
        ⟨some 60, .move, [.t 1], none⟩,
        ⟨some 61, .move, [.t 2], none⟩,
        ⟨some 62, .call [] false, [.f 39, .t 59, .t 60, .t 61], none⟩,
        ⟨none, .chk (.faddr 3), [.t 57, .t 7], none⟩,
        ⟨none, .chk (.load none false), [.t 58, .t 57], none⟩,
        ⟨some 63, .bslice 4 true, [.t 62], none⟩,
        ⟨none, .chk (.faddr 3), [.t 57, .t 7], none⟩,
        ⟨none, .chk (.load none false), [.t 58, .t 57], none⟩,
        ⟨some 64, .append 4 true, [.t 58, .t 63], none⟩,
        ⟨some 65, .faddr 3, [.t 7], none⟩,
        ⟨none, .store 1 true, [.t 65, .t 64], none⟩] [1, 2, 6, 7, 51, 52, 53] [6, 7, 64, 84, 122])))
    (.reg [] [⟨some 66, .bin .add, [.t 53, .k (.i 1)], none⟩,
      ⟨some 53, .move, [.t 66], none⟩] [1, 2, 6, 7, 51, 52, 53] [6, 7, 64, 84, 122]))))
def c39l0 : AC := b39l0
theorem r39l0 (call lp s) : run call lp c39l0 s = run call lp b39l0 s := rfl
def b39l1 : AC :=
 (.seq
  (.seq
   (.reg [] [⟨some 92, .move, [.t 13], none⟩,
     ⟨some 93, .move, [.t 1], none⟩,
     ⟨some 94, .bin .eq, [.t 92, .t 93], none⟩,
     ⟨some 95, .move, [.t 94], none⟩,
     ⟨some 96, .move, [.t 13], some (95, false)⟩,
     ⟨some 97, .move, [.t 2], some (95, false)⟩,
     ⟨some 98, .bin .eq, [.t 96, .t 97], some (95, false)⟩,
     ⟨some 99, .pick, [.t 95, .k (.b true), .t 98], none⟩,
     ⟨some 100, .move, [.t 99], none⟩,
     ⟨some 101, .move, [.t 13], some (100, false)⟩,
     ⟨some 102, .iarr 1 30, [.t 12, .t 101], some (100, false)⟩,
     ⟨some 103, .load none false, [.t 102], some (100, false)⟩,
     ⟨some 104, .pick, [.t 100, .k (.b true), .t 103], none⟩] [1, 2, 3, 6, 7, 8, 11, 12, 13, 104] [3, 6, 7, 11, 12, 64, 84, 110, 122])
   (.cond (.t 104)
    .skip
    (.exit 3)))
  (.block 4
   (.reg [] [⟨some 105, .move, [.t 13], none⟩,
     ⟨some 106, .bin .add, [.t 105, .k (.i 1)], none⟩,
     ⟨some 13, .move, [.t 106], none⟩] [1, 2, 3, 6, 7, 8, 11, 12, 13] [3, 6, 7, 11, 12, 64, 84, 110, 122])))
def c39l1 : AC := b39l1
theorem r39l1 (call lp s) : run call lp c39l1 s = run call lp b39l1 s := rfl
/-- impl.putIn -/
def c39 : AC :=
 (.seq
  (.reg [] [⟨some 3, .box, [.t 0], none⟩,
    ⟨some 6, .alloc [.i 0, .i 0, .i 0, .nils], [], none⟩] [1, 2, 3, 6] [3, 6, 64, 84, 122])
  (.seq
   (.reg [] [⟨some 14, .faddr 0, [.t 3], none⟩,
     ⟨some 15, .load none false, [.t 14], none⟩,
     ⟨some 16, .faddr 1, [.t 3], none⟩,
     ⟨some 17, .load none false, [.t 16], none⟩,
     ⟨some 18, .faddr 2, [.t 3], none⟩,
     ⟨some 19, .load none false, [.t 18], none⟩,
     ⟨some 20, .build [.i 0, .i 0, .i 0, .nils] [(0, 1), (1, 1), (2, 1)], [.t 15, .t 17, .t 19], none⟩,
     ⟨some 7, .alloc [.i 0, .i 0, .i 0, .nils], [], none⟩,
     ⟨none, .store 4 true, [.t 7, .t 20], none⟩] [1, 2, 3, 6, 7] [3, 6, 7, 64, 84, 122])
   (.seq
    (.seq
     (.reg [] [⟨some 21, .faddr 0, [.t 3], none⟩,
       ⟨some 22, .load none false, [.t 21], none⟩] [1, 2, 3, 6, 7, 22] [3, 6, 7, 64, 84, 122])
     (.block 0
      (.seq
       (.seq
        (.reg [] [⟨some 24, .bin .eq, [.t 22, .k (.i 1)], none⟩,
          ⟨some 23, .move, [.t 24], none⟩] [1, 2, 3, 6, 7, 22, 23] [3, 6, 7, 64, 84, 122])
        (.cond (.t 23)
         .skip
         (.reg [] [⟨some 25, .bin .eq, [.t 22, .k (.i 7)], none⟩,
           ⟨some 23, .move, [.t 25], none⟩] [1, 2, 3, 6, 7, 22, 23] [3, 6, 7, 64, 84, 122])))
       (.cond (.t 23)
        (.reg [0, 1, 2, 3, 8, 4, 5, 6, 7, 12, 11, 14, 15, 16] [⟨some 26, .faddr 1, [.t 3], none⟩,
          ⟨some 27, .load none false, [.t 26], none⟩,
          ⟨some 28, .move, [.t 1], none⟩,
          ⟨some 29, .move, [.t 2], none⟩,
          ⟨some 31, .faddr 2, [.t 3], none⟩,
          ⟨some 32, .load none false, [.t 31], none⟩,
          ⟨some 33, .move, [.t 1], none⟩,
          ⟨some 34, .move, [.t 2], none⟩,
          ⟨some 30, .call [] false, [.f 52, .t 27, .t 28, .t 29], none⟩,
          ⟨none, .chk (.faddr 2), [.t 31, .t 3], none⟩,
          ⟨none, .chk (.load none false), [.t 32, .t 31], none⟩,
          ⟨some 36, .faddr 1, [.t 7], none⟩,
          ⟨some 35, .call [] false, [.f 52, .t 32, .t 33, .t 34], none⟩,
          ⟨none, .chk (.faddr 1), [.t 36, .t 7], none⟩,
          ⟨none, .store 1 true, [.t 36, .t 30], none⟩,
          ⟨some 37, .faddr 2, [.t 7], none⟩,
          ⟨none, .store 1 true, [.t 37, .t 35], none⟩] [1, 2, 3, 6, 7] [3, 6, 7, 64, 84, 122])
        (.seq
         (.reg [] [⟨some 39, .bin .eq, [.t 22, .k (.i 2)], none⟩,
           ⟨some 38, .move, [.t 39], none⟩] [1, 2, 3, 6, 7, 38] [3, 6, 7, 64, 84, 122])
         (.cond (.t 38)
          (.reg [] [⟨some 40, .faddr 1, [.t 3], none⟩,
            ⟨some 41, .load none false, [.t 40], none⟩,
            ⟨some 42, .move, [.t 1], none⟩,
            ⟨some 43, .move, [.t 2], none⟩,
            ⟨some 44, .call [] false, [.f 52, .t 41, .t 42, .t 43], none⟩,
            ⟨some 45, .faddr 1, [.t 7], none⟩,
            ⟨none, .store 1 true, [.t 45, .t 44], none⟩] [1, 2, 3, 6, 7] [3, 6, 7, 64, 84, 122])
          .skip))))))
    (.seq
     (.reg [] [⟨some 46, .load (some 4) false, [.t 3], none⟩,
       ⟨some 47, .call [] false, [.f 53, .t 46], none⟩,
       ⟨some 8, .move, [.t 47], none⟩] [1, 2, 3, 6, 7, 8] [3, 6, 7, 64, 84, 122])
     (.seq
      (.seq
       (.reg [] [⟨some 48, .move, [.t 8], none⟩,
         ⟨some 49, .bin .lt, [.t 48, .k (.i 0)], none⟩] [1, 2, 3, 6, 7, 8, 49] [3, 6, 7, 64, 84, 122])
       (.cond (.t 49)
        (.seq
         (.seq
          (.reg [] [⟨some 50, .faddr 3, [.t 3], none⟩,
            ⟨some 51, .load none false, [.t 50], none⟩,
            ⟨some 52, .len, [.t 51], none⟩,
            ⟨some 53, .move, [.k (.i 0)], none⟩] [1, 2, 6, 7, 51, 52, 53] [6, 7, 64, 84, 122])
          (.block 1
           (.loop [1, 2, 6, 7, 51, 52, 53] [6, 7, 64, 84, 122] c39l0)))
         (.seq
          (.reg [] [⟨some 67, .load (some 4) false, [.t 7], none⟩,
            ⟨none, .store 4 true, [.t 6, .t 67], none⟩] [6] [6, 64, 84, 122])
          .ret))
        .skip))
      (.seq
       (.reg [] [⟨some 68, .faddr 3, [.t 3], none⟩,
         ⟨some 69, .load none false, [.t 68], none⟩,
         ⟨some 70, .iaddr 4, [.t 69, .k (.i 0)], none⟩,
         ⟨some 71, .load (some 4) false, [.t 70], none⟩,
         ⟨some 11, .alloc [.i 0, .i 0, .i 0, .nils], [], none⟩,
         ⟨none, .store 4 true, [.t 11, .t 71], none⟩] [1, 2, 3, 6, 7, 8, 11] [3, 6, 7, 11, 64, 84, 110, 122])
       (.seq
        (.seq
         (.reg [] [⟨some 72, .move, [.t 8], none⟩,
           ⟨some 73, .move, [.t 1], none⟩,
           ⟨some 74, .bin .eq, [.t 72, .t 73], none⟩,
           ⟨some 75, .move, [.t 74], none⟩,
           ⟨some 76, .load (some 4) false, [.t 11], some (75, false)⟩,
           ⟨some 77, .call [] false, [.f 40, .t 76], some (75, false)⟩,
           ⟨some 78, .move, [.t 1], some (75, false)⟩,
           ⟨some 79, .idx none 1 30, [.t 77, .t 78], some (75, false)⟩,
           ⟨some 80, .not, [.t 79], some (75, false)⟩,
           ⟨some 81, .pick, [.t 75, .k (.b true), .t 80], none⟩] [1, 2, 3, 6, 7, 8, 11, 81] [3, 6, 7, 11, 64, 84, 110, 122])
         (.cond (.t 81)
          (.seq
           (.reg [] [⟨some 82, .load (some 4) false, [.t 11], none⟩,
             ⟨some 83, .call [] false, [.f 54, .t 82], none⟩,
             ⟨some 84, .bslice 4 true, [.t 83], none⟩,
             ⟨some 85, .faddr 3, [.t 7], none⟩,
             ⟨none, .store 1 true, [.t 85, .t 84], none⟩] [6, 7] [6, 7, 64, 84, 122])
           (.seq
            (.reg [] [⟨some 86, .load (some 4) false, [.t 7], none⟩,
              ⟨none, .store 4 true, [.t 6, .t 86], none⟩] [6] [6, 64, 84, 122])
            .ret))
          .skip))
        (.seq
         (.seq
          (.reg [] [⟨some 87, .move, [.t 8], none⟩,
            ⟨some 88, .move, [.t 2], none⟩,
            ⟨some 89, .bin .eq, [.t 87, .t 88], none⟩] [1, 2, 3, 6, 7, 8, 11, 89] [3, 6, 7, 11, 64, 84, 110, 122])
          (.cond (.t 89)
           (.seq
            (.reg [] [⟨some 90, .load (some 4) false, [.t 11], none⟩,
              ⟨some 91, .call [] false, [.f 40, .t 90], none⟩,
              ⟨some 12, .alloc [.b false, .b false, .b false, .b false, .b false, .b false, .b false, .b false, .b false, .b false, .b false, .b false, .b false, .b false, .b false, .b false, .b false, .b false, .b false, .b false, .b false, .b false, .b false, .b false, .b false, .b false, .b false, .b false, .b false, .b false], [], none⟩,
              ⟨none, .store 30 true, [.t 12, .t 91], none⟩,
              ⟨some 13, .move, [.k (.i 0)], none⟩] [1, 2, 3, 6, 7, 8, 11, 12, 13] [3, 6, 7, 11, 12, 64, 84, 110, 122])
            (.seq
             (.block 3
              (.loop [1, 2, 3, 6, 7, 8, 11, 12, 13] [3, 6, 7, 11, 12, 64, 84, 110, 122] c39l1))
             (.seq
              (.reg [] [⟨some 107, .load (some 4) false, [.t 11], none⟩,
                ⟨some 108, .move, [.t 8], none⟩,
                ⟨some 109, .move, [.t 13], none⟩,
                ⟨some 110, .call [] false, [.f 39, .t 107, .t 108, .t 109], none⟩,
                ⟨none, .store 4 true, [.t 11, .t 110], none⟩] [1, 2, 3, 6, 7, 11, 13] [3, 6, 7, 11, 64, 84, 110, 122])
              (.seq
               (.reg [] [⟨some 111, .faddr 0, [.t 3], none⟩,
                 ⟨some 112, .load none false, [.t 111], none⟩,
                 ⟨some 113, .bin .eq, [.t 112, .k (.i 2)], none⟩] [1, 2, 6, 7, 11, 13, 113] [6, 7, 11, 64, 84, 110, 122])
               (.cond (.t 113)
                (.reg [] [⟨some 114, .move, [.t 13], none⟩,
                  ⟨some 115, .faddr 2, [.t 7], none⟩,
                  ⟨none, .store 1 true, [.t 115, .t 114], none⟩] [1, 2, 6, 7, 11] [6, 7, 11, 64, 84, 110, 122])
                (.reg [] [⟨some 116, .move, [.t 13], none⟩,
                  ⟨some 117, .faddr 1, [.t 7], none⟩,
                  ⟨none, .store 1 true, [.t 117, .t 116], none⟩] [1, 2, 6, 7, 11] [6, 7, 11, 64, 84, 110, 122]))))))
           .skip))
         (.seq
          (.reg [] [⟨some 118, .load (some 4) false, [.t 11], none⟩,
            ⟨some 119, .move, [.t 1], none⟩,
            ⟨some 120, .move, [.t 2], none⟩,
            ⟨some 121, .call [] false, [.f 39, .t 118, .t 119, .t 120], none⟩,
            ⟨some 122, .bslice 4 true, [.t 121], none⟩,
            ⟨some 123, .faddr 3, [.t 7], none⟩,
            ⟨none, .store 1 true, [.t 123, .t 122], none⟩] [6, 7] [6, 7, 64, 84, 122])
          (.seq
           (.reg [] [⟨some 124, .load (some 4) false, [.t 7], none⟩,
             ⟨none, .store 4 true, [.t 6, .t 124], none⟩] [6] [6, 64, 84, 122])
           .ret))))))))))
def a39 : AF := ⟨c39, [.cell 6 (some 4)]⟩
/-- impl.PiPut -/
def c20 : AC :=
 (.seq
  (.reg [] [⟨some 3, .box, [.t 0], none⟩,
    ⟨some 6, .alloc [.i 0, .i 0, .i 0, .nils], [], none⟩,
    ⟨some 7, .move, [.k (.b false)], none⟩] [1, 2, 3, 6] [3, 6, 25])
  (.seq
   (.seq
    (.reg [] [⟨some 8, .load (some 4) false, [.t 3], none⟩,
      ⟨some 9, .call [] false, [.f 17, .t 8], none⟩,
      ⟨some 10, .not, [.t 9], none⟩,
      ⟨some 11, .move, [.t 10], none⟩,
      ⟨some 12, .move, [.t 1], some (11, false)⟩,
      ⟨some 13, .call [] false, [.f 38, .t 12], some (11, false)⟩,
      ⟨some 14, .not, [.t 13], some (11, false)⟩,
      ⟨some 15, .pick, [.t 11, .k (.b true), .t 14], none⟩,
      ⟨some 16, .move, [.t 15], none⟩,
      ⟨some 17, .move, [.t 2], some (16, false)⟩,
      ⟨some 18, .call [] false, [.f 38, .t 17], some (16, false)⟩,
      ⟨some 19, .not, [.t 18], some (16, false)⟩,
      ⟨some 20, .pick, [.t 16, .k (.b true), .t 19], none⟩] [1, 2, 3, 6, 20] [3, 6, 25])
    (.cond (.t 20)
     (.seq
      (.reg [] [⟨some 21, .build [.i 0, .i 0, .i 0, .nils] [], [], none⟩,
        ⟨none, .store 4 true, [.t 6, .t 21], none⟩,
        ⟨some 7, .move, [.k (.b false)], none⟩] [6, 7] [6, 25])
      .ret)
     .skip))
   (.seq
    (.reg [] [⟨some 22, .load (some 4) false, [.t 3], none⟩,
      ⟨some 23, .move, [.t 1], none⟩,
      ⟨some 24, .move, [.t 2], none⟩,
      ⟨some 25, .call [] false, [.f 39, .t 22, .t 23, .t 24], none⟩,
      ⟨none, .store 4 true, [.t 6, .t 25], none⟩,
      ⟨some 7, .move, [.k (.b true)], none⟩] [6, 7] [6, 25])
    .ret)))
def a20 : AF := ⟨c20, [.cell 6 (some 4), .tmp 7]⟩
/-- spec.l6In -/
def c36 : AC :=
 (.seq
  (.reg [] [⟨some 6, .move, [.k (.b false)], none⟩] [0, 1, 2] [])
  (.seq
   (.reg [] [⟨some 7, .move, [.t 0], none⟩,
     ⟨some 8, .move, [.t 1], none⟩,
     ⟨some 9, .bin .ge, [.t 7, .t 8], none⟩,
     ⟨some 10, .move, [.t 9], none⟩,
     ⟨some 11, .move, [.t 0], some (10, true)⟩,
     ⟨some 12, .move, [.t 2], some (10, true)⟩,
     ⟨some 13, .bin .le, [.t 11, .t 12], some (10, true)⟩,
     ⟨some 14, .pick, [.t 10, .t 13, .k (.b false)], none⟩,
     ⟨some 6, .move, [.t 14], none⟩] [6] [])
   .ret))
def a36 : AF := ⟨c36, [.tmp 6]⟩
/-- spec.l13Name -/
def c42 : AC :=
 (.seq
  (.reg [] [⟨some 2, .move, [.k (.b false)], none⟩] [0] [])
  (.seq
   (.reg [] [⟨some 3, .move, [.t 0], none⟩,
     ⟨some 4, .call [] false, [.f 36, .t 3, .k (.i 0), .k (.i 29)], none⟩,
     ⟨some 2, .move, [.t 4], none⟩] [2] [])
   .ret))
def a42 : AF := ⟨c42, [.tmp 2]⟩
def b37l0 : AC :=
 (.seq
  (.seq
   (.reg [] [⟨some 70, .move, [.t 6], none⟩,
     ⟨some 71, .move, [.t 3], none⟩,
     ⟨some 72, .bin .lt, [.t 70, .t 71], none⟩] [1, 3, 5, 6, 72] [1])
   (.cond (.t 72)
    .skip
    (.exit 1)))
  (.seq
   (.block 2
    (.seq
     (.reg [] [⟨some 75, .faddr 3, [.t 1], none⟩,
       ⟨some 76, .load none false, [.t 75], none⟩,
       ⟨some 77, .move, [.t 6], none⟩,
       ⟨some 78, .iaddr 4, [.t 76, .t 77], none⟩,
       ⟨some 79, .load (some 4) false, [.t 78], none⟩,
       ⟨some 80, .call [] false, [.f 37, .t 79], none⟩,
       ⟨some 7, .move, [.t 80], none⟩] [1, 3, 5, 6, 7] [1])
     (.seq
      (.seq
       (.reg [] [⟨some 81, .move, [.t 7], none⟩,
         ⟨some 82, .bin .eq, [.t 81, .k (.i 0)], none⟩] [1, 3, 5, 6, 7, 82] [1])
       (.cond (.t 82)
        (.seq
         (.reg [] [⟨some 2, .move, [.k (.i 0)], none⟩] [2] [])
         .ret)
        .skip))
      (.reg [] [⟨some 83, .move, [.t 5], none⟩,
        ⟨some 84, .move, [.t 7], none⟩,
        ⟨some 85, .bin .add, [.t 83, .t 84], none⟩,
        ⟨some 86, .min2, [.k (.i 1000), .t 85], none⟩,
        ⟨some 5, .move, [.t 86], none⟩] [1, 3, 5, 6] [1]))))
   (.reg [] [⟨some 73, .move, [.t 6], none⟩,
     ⟨some 74, .bin .add, [.t 73, .k (.i 1)], none⟩,
     ⟨some 6, .move, [.t 74], none⟩] [1, 3, 5, 6] [1])))
def c37l0 : AC := b37l0
theorem r37l0 (call lp s) : run call lp c37l0 s = run call lp b37l0 s := rfl
/-- spec.l13Nodes -/
def c37 : AC :=
 (.seq
  (.reg [] [⟨some 1, .box, [.t 0], none⟩,
    ⟨some 2, .move, [.k (.i 0)], none⟩] [1] [1])
  (.seq
   (.reg [] [⟨some 3, .move, [.k (.i 1)], none⟩] [1, 3] [1])
   (.seq
    (.reg [] [⟨some 8, .faddr 1, [.t 1], none⟩,
      ⟨some 9, .load none false, [.t 8], none⟩,
      ⟨some 10, .call [] false, [.f 42, .t 9], none⟩,
      ⟨some 11, .move, [.t 10], none⟩,
      ⟨some 12, .faddr 2, [.t 1], some (11, true)⟩,
      ⟨some 13, .load none false, [.t 12], some (11, true)⟩,
      ⟨some 14, .call [] false, [.f 42, .t 13], some (11, true)⟩,
      ⟨some 15, .pick, [.t 11, .t 14, .k (.b false)], none⟩,
      ⟨some 4, .move, [.t 15], none⟩] [1, 3, 4] [1])
    (.seq
     (.seq
      (.reg [] [⟨some 16, .faddr 0, [.t 1], none⟩,
        ⟨some 17, .load none false, [.t 16], none⟩] [1, 3, 4, 17] [1])
      (.block 0
       (.seq
        (.reg [] [⟨some 19, .bin .eq, [.t 17, .k (.i 0)], none⟩,
          ⟨some 18, .move, [.t 19], none⟩] [1, 3, 4, 17, 18] [1])
        (.cond (.t 18)
         (.seq
          (.reg [] [⟨some 3, .move, [.k (.i 0)], none⟩] [1, 3] [1])
          (.reg [] [⟨some 20, .faddr 1, [.t 1], none⟩,
            ⟨some 21, .load none false, [.t 20], none⟩,
            ⟨some 22, .bin .eq, [.t 21, .k (.i 0)], none⟩,
            ⟨some 23, .move, [.t 22], none⟩,
            ⟨some 24, .faddr 2, [.t 1], some (23, true)⟩,
            ⟨some 25, .load none false, [.t 24], some (23, true)⟩,
            ⟨some 26, .bin .eq, [.t 25, .k (.i 0)], some (23, true)⟩,
            ⟨some 27, .pick, [.t 23, .t 26, .k (.b false)], none⟩,
            ⟨some 4, .move, [.t 27], none⟩] [1, 3, 4] [1]))
         (.seq
          (.reg [] [⟨some 29, .bin .eq, [.t 17, .k (.i 3)], none⟩,
            ⟨some 28, .move, [.t 29], none⟩] [1, 3, 4, 17, 28] [1])
          (.cond (.t 28)
           (.reg [] [⟨some 30, .faddr 1, [.t 1], none⟩,
             ⟨some 31, .load none false, [.t 30], none⟩,
             ⟨some 32, .bin .eq, [.t 31, .k (.i 0)], none⟩,
             ⟨some 33, .move, [.t 32], none⟩,
             ⟨some 34, .faddr 2, [.t 1], some (33, true)⟩,
             ⟨some 35, .load none false, [.t 34], some (33, true)⟩,
             ⟨some 36, .bin .eq, [.t 35, .k (.i 0)], some (33, true)⟩,
             ⟨some 37, .pick, [.t 33, .t 36, .k (.b false)], none⟩,
             ⟨some 4, .move, [.t 37], none⟩] [1, 3, 4] [1])
           (.seq
            (.seq
             (.reg [] [⟨some 39, .bin .eq, [.t 17, .k (.i 4)], none⟩,
               ⟨some 38, .move, [.t 39], none⟩] [1, 3, 4, 17, 38] [1])
             (.cond (.t 38)
              .skip
              (.reg [] [⟨some 40, .bin .eq, [.t 17, .k (.i 5)], none⟩,
                ⟨some 38, .move, [.t 40], none⟩] [1, 3, 4, 17, 38] [1])))
            (.cond (.t 38)
             (.seq
              (.reg [] [⟨some 3, .move, [.k (.i 2)], none⟩] [1, 3] [1])
              (.reg [] [⟨some 41, .faddr 1, [.t 1], none⟩,
                ⟨some 42, .load none false, [.t 41], none⟩,
                ⟨some 43, .bin .eq, [.t 42, .k (.i 0)], none⟩,
                ⟨some 44, .move, [.t 43], none⟩,
                ⟨some 45, .faddr 2, [.t 1], some (44, true)⟩,
                ⟨some 46, .load none false, [.t 45], some (44, true)⟩,
                ⟨some 47, .bin .eq, [.t 46, .k (.i 0)], some (44, true)⟩,
                ⟨some 48, .pick, [.t 44, .t 47, .k (.b false)], none⟩,
                ⟨some 4, .move, [.t 48], none⟩] [1, 3, 4] [1]))
             (.seq
              (.reg [] [⟨some 50, .bin .eq, [.t 17, .k (.i 6)], none⟩,
                ⟨some 49, .move, [.t 50], none⟩] [1, 3, 4, 17, 49] [1])
              (.cond (.t 49)
               (.reg [] [⟨some 51, .move, [.t 4], none⟩,
                 ⟨some 52, .move, [.t 51], none⟩,
                 ⟨some 53, .faddr 2, [.t 1], some (52, true)⟩,
                 ⟨some 54, .load none false, [.t 53], some (52, true)⟩,
                 ⟨some 55, .bin .lt, [.t 54, .k (.i 3)], some (52, true)⟩,
                 ⟨some 56, .pick, [.t 52, .t 55, .k (.b false)], none⟩,
                 ⟨some 4, .move, [.t 56], none⟩] [1, 3, 4] [1])
               (.seq
                (.seq
                 (.reg [] [⟨some 58, .bin .eq, [.t 17, .k (.i 1)], none⟩,
                   ⟨some 57, .move, [.t 58], none⟩] [1, 3, 4, 17, 57] [1])
                 (.cond (.t 57)
                  .skip
                  (.seq
                   (.reg [] [⟨some 59, .bin .eq, [.t 17, .k (.i 2)], none⟩,
                     ⟨some 57, .move, [.t 59], none⟩] [1, 3, 4, 17, 57] [1])
                   (.cond (.t 57)
                    .skip
                    (.reg [] [⟨some 60, .bin .eq, [.t 17, .k (.i 7)], none⟩,
                      ⟨some 57, .move, [.t 60], none⟩] [1, 3, 4, 57] [1])))))
                (.cond (.t 57)
                 .skip
                 (.seq
                  (.reg [] [⟨some 2, .move, [.k (.i 0)], none⟩] [2] [])
                  .ret)))))))))))))
     (.seq
      (.seq
       (.reg [] [⟨some 61, .move, [.t 4], none⟩,
         ⟨some 62, .not, [.t 61], none⟩,
         ⟨some 63, .move, [.t 62], none⟩,
         ⟨some 64, .faddr 3, [.t 1], some (63, false)⟩,
         ⟨some 65, .load none false, [.t 64], some (63, false)⟩,
         ⟨some 66, .len, [.t 65], some (63, false)⟩,
         ⟨some 67, .move, [.t 3], some (63, false)⟩,
         ⟨some 68, .bin .ne, [.t 66, .t 67], some (63, false)⟩,
         ⟨some 69, .pick, [.t 63, .k (.b true), .t 68], none⟩] [1, 3, 69] [1])
       (.cond (.t 69)
        (.seq
         (.reg [] [⟨some 2, .move, [.k (.i 0)], none⟩] [2] [])
         .ret)
        .skip))
      (.seq
       (.reg [] [⟨some 5, .move, [.k (.i 1)], none⟩] [1, 3, 5] [1])
       (.seq
        (.seq
         (.reg [] [⟨some 6, .move, [.k (.i 0)], none⟩] [1, 3, 5, 6] [1])
         (.block 1
          (.loop [1, 3, 5, 6] [1] c37l0)))
        (.seq
         (.reg [] [⟨some 87, .move, [.t 5], none⟩,
           ⟨some 2, .move, [.t 87], none⟩] [2] [])
         .ret))))))))
def a37 : AF := ⟨c37, [.tmp 2]⟩
/-- spec.PiOk -/
def c18 : AC :=
 (.seq
  (.reg [] [⟨some 1, .box, [.t 0], none⟩,
    ⟨some 2, .move, [.k (.b false)], none⟩] [1] [1])
  (.seq
   (.reg [] [⟨some 3, .load (some 4) false, [.t 1], none⟩,
     ⟨some 4, .call [] false, [.f 37, .t 3], none⟩,
     ⟨some 5, .call [] false, [.f 36, .t 4, .k (.i 1), .k (.i 14)], none⟩,
     ⟨some 2, .move, [.t 5], none⟩] [2] [])
   .ret))
def a18 : AF := ⟨c18, [.tmp 2]⟩
/-- spec.l13Binds -/
def c44 : AC :=
 (.seq
  (.reg [] [⟨some 1, .box, [.t 0], none⟩,
    ⟨some 2, .move, [.k (.i 0)], none⟩] [1] [1])
  (.seq
   (.seq
    (.reg [] [⟨some 3, .faddr 0, [.t 1], none⟩,
      ⟨some 4, .load none false, [.t 3], none⟩] [1, 4] [1])
    (.block 0
     (.seq
      (.reg [] [⟨some 6, .bin .eq, [.t 4, .k (.i 2)], none⟩,
        ⟨some 5, .move, [.t 6], none⟩] [1, 4, 5] [1])
      (.cond (.t 5)
       (.seq
        (.reg [] [⟨some 7, .faddr 2, [.t 1], none⟩,
          ⟨some 8, .load none false, [.t 7], none⟩,
          ⟨some 2, .move, [.t 8], none⟩] [2] [])
        .ret)
       (.seq
        (.reg [] [⟨some 10, .bin .eq, [.t 4, .k (.i 6)], none⟩,
          ⟨some 9, .move, [.t 10], none⟩] [1, 9] [1])
        (.cond (.t 9)
         (.seq
          (.reg [] [⟨some 11, .faddr 1, [.t 1], none⟩,
            ⟨some 12, .load none false, [.t 11], none⟩,
            ⟨some 2, .move, [.t 12], none⟩] [2] [])
          .ret)
         .skip))))))
   (.seq
    (.reg [] [⟨some 2, .move, [.k (.i (-1))], none⟩] [2] [])
    .ret)))
def a44 : AF := ⟨c44, [.tmp 2]⟩
/-- spec.l13Uses -/
def c62 : AC :=
 (.seq
  (.reg [] [⟨some 2, .box, [.t 0], none⟩,
    ⟨some 4, .move, [.k (.b false)], none⟩] [1, 2] [2])
  (.seq
   (.seq
    (.reg [] [⟨some 5, .faddr 0, [.t 2], none⟩,
      ⟨some 6, .load none false, [.t 5], none⟩] [1, 2, 6] [2])
    (.block 0
     (.seq
      (.seq
       (.reg [] [⟨some 8, .bin .eq, [.t 6, .k (.i 1)], none⟩,
         ⟨some 7, .move, [.t 8], none⟩] [1, 2, 6, 7] [2])
       (.cond (.t 7)
        .skip
        (.reg [] [⟨some 9, .bin .eq, [.t 6, .k (.i 7)], none⟩,
          ⟨some 7, .move, [.t 9], none⟩] [1, 2, 6, 7] [2])))
      (.cond (.t 7)
       (.seq
        (.reg [] [⟨some 10, .faddr 1, [.t 2], none⟩,
          ⟨some 11, .load none false, [.t 10], none⟩,
          ⟨some 12, .move, [.t 1], none⟩,
          ⟨some 13, .bin .eq, [.t 11, .t 12], none⟩,
          ⟨some 14, .move, [.t 13], none⟩,
          ⟨some 15, .faddr 2, [.t 2], some (14, false)⟩,
          ⟨some 16, .load none false, [.t 15], some (14, false)⟩,
          ⟨some 17, .move, [.t 1], some (14, false)⟩,
          ⟨some 18, .bin .eq, [.t 16, .t 17], some (14, false)⟩,
          ⟨some 19, .pick, [.t 14, .k (.b true), .t 18], none⟩,
          ⟨some 4, .move, [.t 19], none⟩] [4] [])
        .ret)
       (.seq
        (.reg [] [⟨some 21, .bin .eq, [.t 6, .k (.i 2)], none⟩,
          ⟨some 20, .move, [.t 21], none⟩] [1, 2, 20] [2])
        (.cond (.t 20)
         (.seq
          (.reg [] [⟨some 22, .faddr 1, [.t 2], none⟩,
            ⟨some 23, .load none false, [.t 22], none⟩,
            ⟨some 24, .move, [.t 1], none⟩,
            ⟨some 25, .bin .eq, [.t 23, .t 24], none⟩,
            ⟨some 4, .move, [.t 25], none⟩] [4] [])
          .ret)
         .skip))))))
   (.seq
    (.reg [] [⟨some 4, .move, [.k (.b false)], none⟩] [4] [])
    .ret)))
def a62 : AF := ⟨c62, [.tmp 4]⟩
def b56l0 : AC :=
 (.seq
  (.seq
   (.reg [] [⟨some 9, .move, [.t 5], none⟩,
     ⟨some 10, .faddr 3, [.t 2], none⟩,
     ⟨some 11, .load none false, [.t 10], none⟩,
     ⟨some 12, .len, [.t 11], none⟩,
     ⟨some 13, .bin .lt, [.t 9, .t 12], none⟩,
     ⟨some 14, .move, [.t 13], none⟩,
     ⟨some 15, .load (some 4) false, [.t 2], some (14, true)⟩,
     ⟨some 16, .call [] false, [.f 44, .t 15], some (14, true)⟩,
     ⟨some 17, .move, [.t 1], some (14, true)⟩,
     ⟨some 18, .bin .ne, [.t 16, .t 17], some (14, true)⟩,
     ⟨some 19, .pick, [.t 14, .t 18, .k (.b false)], none⟩] [1, 2, 5, 19] [2])
   (.cond (.t 19)
    .skip
    (.exit 0)))
  (.seq
   (.block 1
    (.seq
     (.reg [] [⟨some 22, .faddr 3, [.t 2], none⟩,
       ⟨some 23, .load none false, [.t 22], none⟩,
       ⟨some 24, .move, [.t 5], none⟩,
       ⟨some 25, .iaddr 4, [.t 23, .t 24], none⟩,
       ⟨some 26, .load (some 4) false, [.t 25], none⟩,
       ⟨some 27, .move, [.t 1], none⟩,
       ⟨some 28, .call [] false, [.f 56, .t 26, .t 27], none⟩] [1, 2, 5, 28] [2])
     (.cond (.t 28)
      (.seq
       (.reg [] [⟨some 4, .move, [.k (.b true)], none⟩] [4] [])
       .ret)
      .skip)))
   (.reg [] [⟨some 20, .move, [.t 5], none⟩,
     ⟨some 21, .bin .add, [.t 20, .k (.i 1)], none⟩,
     ⟨some 5, .move, [.t 21], none⟩] [1, 2, 5] [2])))
def c56l0 : AC := b56l0
theorem r56l0 (call lp s) : run call lp c56l0 s = run call lp b56l0 s := rfl
/-- spec.l13Free -/
def c56 : AC :=
 (.seq
  (.reg [] [⟨some 2, .box, [.t 0], none⟩,
    ⟨some 4, .move, [.k (.b false)], none⟩] [1, 2] [2])
  (.seq
   (.seq
    (.reg [] [⟨some 6, .load (some 4) false, [.t 2], none⟩,
      ⟨some 7, .move, [.t 1], none⟩,
      ⟨some 8, .call [] false, [.f 62, .t 6, .t 7], none⟩] [1, 2, 8] [2])
    (.cond (.t 8)
     (.seq
      (.reg [] [⟨some 4, .move, [.k (.b true)], none⟩] [4] [])
      .ret)
     .skip))
   (.seq
    (.seq
     (.reg [] [⟨some 5, .move, [.k (.i 0)], none⟩] [1, 2, 5] [2])
     (.block 0
      (.loop [1, 2, 5] [2] c56l0)))
    (.seq
     (.reg [] [⟨some 4, .move, [.k (.b false)], none⟩] [4] [])
     .ret))))
def a56 : AF := ⟨c56, [.tmp 4]⟩
def b57l0 : AC :=
 (.seq
  (.seq
   (.reg [] [⟨some 8, .move, [.t 7], none⟩,
     ⟨some 9, .move, [.t 1], none⟩,
     ⟨some 10, .bin .eq, [.t 8, .t 9], none⟩,
     ⟨some 11, .move, [.t 10], none⟩,
     ⟨some 12, .move, [.t 7], some (11, false)⟩,
     ⟨some 13, .move, [.t 2], some (11, false)⟩,
     ⟨some 14, .bin .eq, [.t 12, .t 13], some (11, false)⟩,
     ⟨some 15, .pick, [.t 11, .k (.b true), .t 14], none⟩,
     ⟨some 16, .move, [.t 15], none⟩,
     ⟨some 17, .load (some 4) false, [.t 3], some (16, false)⟩,
     ⟨some 18, .move, [.t 7], some (16, false)⟩,
     ⟨some 19, .call [] false, [.f 56, .t 17, .t 18], some (16, false)⟩,
     ⟨some 20, .pick, [.t 16, .k (.b true), .t 19], none⟩] [1, 2, 3, 7, 20] [3])
   (.cond (.t 20)
    .skip
    (.exit 0)))
  (.block 1
   (.reg [] [⟨some 21, .move, [.t 7], none⟩,
     ⟨some 22, .bin .add, [.t 21, .k (.i 1)], none⟩,
     ⟨some 7, .move, [.t 22], none⟩] [1, 2, 3, 7] [3])))
def c57l0 : AC := b57l0
theorem r57l0 (call lp s) : run call lp c57l0 s = run call lp b57l0 s := rfl
/-- spec.l13Fresh -/
def c57 : AC :=
 (.seq
  (.reg [] [⟨some 3, .box, [.t 0], none⟩,
    ⟨some 6, .move, [.k (.i 0)], none⟩] [1, 2, 3] [3])
  (.seq
   (.reg [] [⟨some 7, .move, [.k (.i 0)], none⟩] [1, 2, 3, 7] [3])
   (.seq
    (.block 0
     (.loop [1, 2, 3, 7] [3] c57l0))
    (.seq
     (.reg [] [⟨some 23, .move, [.t 7], none⟩,
       ⟨some 6, .move, [.t 23], none⟩] [6] [])
     .ret))))
def a57 : AF := ⟨c57, [.tmp 6]⟩
def b43l0 : AC :=
 (.seq
  (.seq
   (.reg [] [⟨some 107, .move, [.t 11], none⟩,
     ⟨some 108, .move, [.t 8], none⟩,
     ⟨some 109, .len, [.t 108], none⟩,
     ⟨some 110, .bin .lt, [.t 107, .t 109], none⟩] [1, 2, 6, 7, 8, 11, 110] [6, 7, 99, 123])
   (.cond (.t 110)
    .skip
    (.exit 0)))
  (.seq
   (.block 1
    (.reg [0, 1, 2, 3, 4, 5, 6, 7, 8, 11, 14, 15, 16] [⟨some 113, .faddr 3, [.t 7], none⟩,
      ⟨some 114, .load none false, [.t 113], none⟩,
      ⟨some 115, .move, [.t 8], none⟩,
      ⟨some 116, .move, [.t 11], none⟩,
      ⟨some 117, .iaddr 4, [.t 115, .t 116], none⟩,
      ⟨some 118, .load (some 4) false, [.t 117], none⟩,
      ⟨some 119, .move, [.t 1], none⟩,
      ⟨some 120, .move, [.t 2], none⟩,
      ⟨some 121, .call [] false, [.f 43, .t 118, .t 119, .t 120], none⟩,
      ⟨none, .chk (.faddr 3), [.t 113, .t 7], none⟩,
      ⟨none, .chk (.load none false), [.t 114, .t 113], none⟩,
      ⟨some 122, .bslice 4 true, [.t 121], none⟩,
      ⟨none, .chk (.faddr 3), [.t 113, .t 7], none⟩,
      ⟨none, .chk (.load none false), [.t 114, .t 113], none⟩,
      ⟨some 123, .append 4 true, [.t 114, .t 122], none⟩,
      ⟨some 124, .faddr 3, [.t 7], none⟩,
      ⟨none, .store 1 true, [.t 124, .t 123], none⟩] [1, 2, 6, 7, 8, 11] [6, 7, 99, 123]))
   (.reg [] [⟨some 111, .move, [.t 11], none⟩,
     ⟨some 112, .bin .add, [.t 111, .k (.i 1)], none⟩,
     ⟨some 11, .move, [.t 112], none⟩] [1, 2, 6, 7, 8, 11] [6, 7, 99, 123])))
def c43l0 : AC := b43l0
theorem r43l0 (call lp s) : run call lp c43l0 s = run call lp b43l0 s := rfl
/-- spec.l13Put -/
def c43 : AC :=
 (.seq
  (.reg [] [⟨some 3, .box, [.t 0], none⟩,
    ⟨some 6, .alloc [.i 0, .i 0, .i 0, .nils], [], none⟩] [1, 2, 3, 6] [3, 6, 123])
  (.seq
   (.reg [] [⟨some 12, .faddr 0, [.t 3], none⟩,
     ⟨some 13, .load none false, [.t 12], none⟩,
     ⟨some 14, .faddr 1, [.t 3], none⟩,
     ⟨some 15, .load none false, [.t 14], none⟩,
     ⟨some 16, .faddr 2, [.t 3], none⟩,
     ⟨some 17, .load none false, [.t 16], none⟩,
     ⟨some 18, .build [.i 0, .i 0, .i 0, .nils] [(0, 1), (1, 1), (2, 1)], [.t 13, .t 15, .t 17], none⟩,
     ⟨some 7, .alloc [.i 0, .i 0, .i 0, .nils], [], none⟩,
     ⟨none, .store 4 true, [.t 7, .t 18], none⟩] [1, 2, 3, 6, 7] [3, 6, 7, 123])
   (.seq
    (.reg [] [⟨some 19, .faddr 3, [.t 3], none⟩,
      ⟨some 20, .load none false, [.t 19], none⟩,
      ⟨some 8, .move, [.t 20], none⟩] [1, 2, 3, 6, 7, 8] [3, 6, 7, 99, 123])
    (.seq
     (.seq
      (.reg [] [⟨some 21, .faddr 0, [.t 3], none⟩,
        ⟨some 22, .load none false, [.t 21], none⟩,
        ⟨some 23, .bin .eq, [.t 22, .k (.i 1)], none⟩,
        ⟨some 24, .move, [.t 23], none⟩,
        ⟨some 25, .faddr 0, [.t 3], some (24, false)⟩,
        ⟨some 26, .load none false, [.t 25], some (24, false)⟩,
        ⟨some 27, .bin .eq, [.t 26, .k (.i 7)], some (24, false)⟩,
        ⟨some 28, .pick, [.t 24, .k (.b true), .t 27], none⟩,
        ⟨some 29, .move, [.t 28], none⟩,
        ⟨some 30, .faddr 0, [.t 3], some (29, false)⟩,
        ⟨some 31, .load none false, [.t 30], some (29, false)⟩,
        ⟨some 32, .bin .eq, [.t 31, .k (.i 2)], some (29, false)⟩,
        ⟨some 33, .pick, [.t 29, .k (.b true), .t 32], none⟩,
        ⟨some 34, .move, [.t 33], none⟩,
        ⟨some 35, .faddr 1, [.t 3], some (34, true)⟩,
        ⟨some 36, .load none false, [.t 35], some (34, true)⟩,
        ⟨some 37, .move, [.t 1], some (34, true)⟩,
        ⟨some 38, .bin .eq, [.t 36, .t 37], some (34, true)⟩,
        ⟨some 39, .pick, [.t 34, .t 38, .k (.b false)], none⟩] [1, 2, 3, 6, 7, 8, 39] [3, 6, 7, 99, 123])
      (.cond (.t 39)
       (.reg [] [⟨some 40, .move, [.t 2], none⟩,
         ⟨some 41, .faddr 1, [.t 7], none⟩,
         ⟨none, .store 1 true, [.t 41, .t 40], none⟩] [1, 2, 3, 6, 7, 8] [3, 6, 7, 99, 123])
       .skip))
     (.seq
      (.seq
       (.reg [] [⟨some 42, .faddr 0, [.t 3], none⟩,
         ⟨some 43, .load none false, [.t 42], none⟩,
         ⟨some 44, .bin .eq, [.t 43, .k (.i 1)], none⟩,
         ⟨some 45, .move, [.t 44], none⟩,
         ⟨some 46, .faddr 0, [.t 3], some (45, false)⟩,
         ⟨some 47, .load none false, [.t 46], some (45, false)⟩,
         ⟨some 48, .bin .eq, [.t 47, .k (.i 7)], some (45, false)⟩,
         ⟨some 49, .pick, [.t 45, .k (.b true), .t 48], none⟩,
         ⟨some 50, .move, [.t 49], none⟩,
         ⟨some 51, .faddr 2, [.t 3], some (50, true)⟩,
         ⟨some 52, .load none false, [.t 51], some (50, true)⟩,
         ⟨some 53, .move, [.t 1], some (50, true)⟩,
         ⟨some 54, .bin .eq, [.t 52, .t 53], some (50, true)⟩,
         ⟨some 55, .pick, [.t 50, .t 54, .k (.b false)], none⟩] [1, 2, 3, 6, 7, 8, 55] [3, 6, 7, 99, 123])
       (.cond (.t 55)
        (.reg [] [⟨some 56, .move, [.t 2], none⟩,
          ⟨some 57, .faddr 2, [.t 7], none⟩,
          ⟨none, .store 1 true, [.t 57, .t 56], none⟩] [1, 2, 3, 6, 7, 8] [3, 6, 7, 99, 123])
        .skip))
      (.seq
       (.reg [] [⟨some 58, .load (some 4) false, [.t 3], none⟩,
         ⟨some 59, .call [] false, [.f 44, .t 58], none⟩,
         ⟨some 9, .move, [.t 59], none⟩] [1, 2, 3, 6, 7, 8, 9] [3, 6, 7, 99, 123])
       (.seq
        (.seq
         (.reg [] [⟨some 60, .move, [.t 9], none⟩,
           ⟨some 61, .bin .ge, [.t 60, .k (.i 0)], none⟩,
           ⟨some 62, .move, [.t 61], none⟩,
           ⟨some 63, .move, [.t 9], some (62, true)⟩,
           ⟨some 64, .move, [.t 1], some (62, true)⟩,
           ⟨some 65, .bin .eq, [.t 63, .t 64], some (62, true)⟩,
           ⟨some 66, .pick, [.t 62, .t 65, .k (.b false)], none⟩] [1, 2, 3, 6, 7, 8, 9, 66] [3, 6, 7, 99, 123])
         (.cond (.t 66)
          (.reg [] [⟨some 67, .move, [.t 2], none⟩,
            ⟨some 1, .move, [.t 67], none⟩] [1, 2, 3, 6, 7, 8, 9] [3, 6, 7, 99, 123])
          .skip))
        (.seq
         (.seq
          (.reg [] [⟨some 68, .move, [.t 9], none⟩,
            ⟨some 69, .bin .ge, [.t 68, .k (.i 0)], none⟩,
            ⟨some 70, .move, [.t 69], none⟩,
            ⟨some 71, .move, [.t 9], some (70, true)⟩,
            ⟨some 72, .move, [.t 2], some (70, true)⟩,
            ⟨some 73, .bin .eq, [.t 71, .t 72], some (70, true)⟩,
            ⟨some 74, .pick, [.t 70, .t 73, .k (.b false)], none⟩,
            ⟨some 75, .move, [.t 74], none⟩,
            ⟨some 76, .move, [.t 1], some (75, true)⟩,
            ⟨some 77, .move, [.t 2], some (75, true)⟩,
            ⟨some 78, .bin .ne, [.t 76, .t 77], some (75, true)⟩,
            ⟨some 79, .pick, [.t 75, .t 78, .k (.b false)], none⟩,
            ⟨some 80, .move, [.t 79], none⟩,
            ⟨some 81, .move, [.t 8], some (80, true)⟩,
            ⟨some 82, .iaddr 4, [.t 81, .k (.i 0)], some (80, true)⟩,
            ⟨some 83, .load (some 4) false, [.t 82], some (80, true)⟩,
            ⟨some 84, .move, [.t 1], some (80, true)⟩,
            ⟨some 85, .call [] false, [.f 56, .t 83, .t 84], some (80, true)⟩,
            ⟨some 86, .pick, [.t 80, .t 85, .k (.b false)], none⟩] [1, 2, 3, 6, 7, 8, 9, 86] [3, 6, 7, 99, 123])
          (.cond (.t 86)
           (.seq
            (.reg [] [⟨some 87, .move, [.t 8], none⟩,
              ⟨some 88, .iaddr 4, [.t 87, .k (.i 0)], none⟩,
              ⟨some 89, .load (some 4) false, [.t 88], none⟩,
              ⟨some 90, .move, [.t 1], none⟩,
              ⟨some 91, .move, [.t 2], none⟩,
              ⟨some 92, .call [] false, [.f 57, .t 89, .t 90, .t 91], none⟩,
              ⟨some 10, .move, [.t 92], none⟩] [1, 2, 3, 6, 7, 8, 9, 10] [3, 6, 7, 99, 123])
            (.seq
             (.reg [] [⟨some 93, .move, [.t 8], none⟩,
               ⟨some 94, .iaddr 4, [.t 93, .k (.i 0)], none⟩,
               ⟨some 95, .load (some 4) false, [.t 94], none⟩,
               ⟨some 96, .move, [.t 9], none⟩,
               ⟨some 97, .move, [.t 10], none⟩,
               ⟨some 98, .call [] false, [.f 43, .t 95, .t 96, .t 97], none⟩,
               ⟨some 99, .bslice 4 false, [.t 98], none⟩,
               ⟨some 8, .move, [.t 99], none⟩] [1, 2, 3, 6, 7, 8, 10] [3, 6, 7, 99, 123])
             (.seq
              (.reg [] [⟨some 100, .faddr 0, [.t 3], none⟩,
                ⟨some 101, .load none false, [.t 100], none⟩,
                ⟨some 102, .bin .eq, [.t 101, .k (.i 2)], none⟩] [1, 2, 6, 7, 8, 10, 102] [6, 7, 99, 123])
              (.cond (.t 102)
               (.reg [] [⟨some 103, .move, [.t 10], none⟩,
                 ⟨some 104, .faddr 2, [.t 7], none⟩,
                 ⟨none, .store 1 true, [.t 104, .t 103], none⟩] [1, 2, 6, 7, 8] [6, 7, 99, 123])
               (.reg [] [⟨some 105, .move, [.t 10], none⟩,
                 ⟨some 106, .faddr 1, [.t 7], none⟩,
                 ⟨none, .store 1 true, [.t 106, .t 105], none⟩] [1, 2, 6, 7, 8] [6, 7, 99, 123])))))
           .skip))
         (.seq
          (.seq
           (.reg [] [⟨some 11, .move, [.k (.i 0)], none⟩] [1, 2, 6, 7, 8, 11] [6, 7, 99, 123])
           (.block 0
            (.loop [1, 2, 6, 7, 8, 11] [6, 7, 99, 123] c43l0)))
          (.seq
           (.reg [] [⟨some 125, .load (some 4) false, [.t 7], none⟩,
             ⟨none, .store 4 true, [.t 6, .t 125], none⟩] [6] [6, 123])
           .ret))))))))))
def a43 : AF := ⟨c43, [.cell 6 (some 4)]⟩
/-- spec.PiPut -/
def c24 : AC :=
 (.seq
  (.reg [] [⟨some 3, .box, [.t 0], none⟩,
    ⟨some 6, .alloc [.i 0, .i 0, .i 0, .nils], [], none⟩,
    ⟨some 7, .move, [.k (.b false)], none⟩] [1, 2, 3, 6] [3, 6, 25])
  (.seq
   (.seq
    (.reg [] [⟨some 8, .load (some 4) false, [.t 3], none⟩,
      ⟨some 9, .call [] false, [.f 18, .t 8], none⟩,
      ⟨some 10, .not, [.t 9], none⟩,
      ⟨some 11, .move, [.t 10], none⟩,
      ⟨some 12, .move, [.t 1], some (11, false)⟩,
      ⟨some 13, .call [] false, [.f 42, .t 12], some (11, false)⟩,
      ⟨some 14, .not, [.t 13], some (11, false)⟩,
      ⟨some 15, .pick, [.t 11, .k (.b true), .t 14], none⟩,
      ⟨some 16, .move, [.t 15], none⟩,
      ⟨some 17, .move, [.t 2], some (16, false)⟩,
      ⟨some 18, .call [] false, [.f 42, .t 17], some (16, false)⟩,
      ⟨some 19, .not, [.t 18], some (16, false)⟩,
      ⟨some 20, .pick, [.t 16, .k (.b true), .t 19], none⟩] [1, 2, 3, 6, 20] [3, 6, 25])
    (.cond (.t 20)
     (.seq
      (.reg [] [⟨some 21, .build [.i 0, .i 0, .i 0, .nils] [], [], none⟩,
        ⟨none, .store 4 true, [.t 6, .t 21], none⟩,
        ⟨some 7, .move, [.k (.b false)], none⟩] [6, 7] [6, 25])
      .ret)
     .skip))
   (.seq
    (.reg [] [⟨some 22, .load (some 4) false, [.t 3], none⟩,
      ⟨some 23, .move, [.t 1], none⟩,
      ⟨some 24, .move, [.t 2], none⟩,
      ⟨some 25, .call [] false, [.f 43, .t 22, .t 23, .t 24], none⟩,
      ⟨none, .store 4 true, [.t 6, .t 25], none⟩,
      ⟨some 7, .move, [.k (.b true)], none⟩] [6, 7] [6, 25])
    .ret)))
def a24 : AF := ⟨c24, [.cell 6 (some 4), .tmp 7]⟩
def b25l0 : AC :=
 (.seq
  (.seq
   (.reg [] [⟨some 34, .move, [.t 5], none⟩,
     ⟨some 35, .faddr 3, [.t 2], none⟩,
     ⟨some 36, .load none false, [.t 35], none⟩,
     ⟨some 37, .len, [.t 36], none⟩,
     ⟨some 38, .bin .lt, [.t 34, .t 37], none⟩] [2, 3, 5, 38] [2, 3])
   (.cond (.t 38)
    .skip
    (.exit 0)))
  (.seq
   (.block 1
    (.seq
     (.reg [0, 1, 2, 3, 4, 5, 6, 7, 8, 9, 10, 11] [⟨some 41, .faddr 3, [.t 2], none⟩,
       ⟨some 42, .load none false, [.t 41], none⟩,
       ⟨some 43, .move, [.t 5], none⟩,
       ⟨some 44, .iaddr 4, [.t 42, .t 43], none⟩,
       ⟨some 45, .load (some 4) false, [.t 44], none⟩,
       ⟨some 46, .faddr 3, [.t 3], none⟩,
       ⟨some 47, .load none false, [.t 46], none⟩,
       ⟨some 48, .move, [.t 5], none⟩,
       ⟨some 49, .iaddr 4, [.t 47, .t 48], none⟩,
       ⟨some 50, .load (some 4) false, [.t 49], none⟩,
       ⟨some 51, .call [] false, [.f 25, .t 45, .t 50], none⟩,
       ⟨some 52, .not, [.t 51], none⟩] [2, 3, 5, 52] [2, 3])
     (.cond (.t 52)
      (.seq
       (.reg [] [⟨some 4, .move, [.k (.b false)], none⟩] [4] [])
       .ret)
      .skip)))
   (.reg [] [⟨some 39, .move, [.t 5], none⟩,
     ⟨some 40, .bin .add, [.t 39, .k (.i 1)], none⟩,
     ⟨some 5, .move, [.t 40], none⟩] [2, 3, 5] [2, 3])))
def c25l0 : AC := b25l0
theorem r25l0 (call lp s) : run call lp c25l0 s = run call lp b25l0 s := rfl
/-- laws.mnPi -/
def c25 : AC :=
 (.seq
  (.reg [] [⟨some 2, .box, [.t 0], none⟩,
    ⟨some 3, .box, [.t 1], none⟩,
    ⟨some 4, .move, [.k (.b false)], none⟩] [2, 3] [2, 3])
  (.seq
   (.seq
    (.reg [] [⟨some 6, .faddr 0, [.t 2], none⟩,
      ⟨some 7, .load none false, [.t 6], none⟩,
      ⟨some 8, .faddr 0, [.t 3], none⟩,
      ⟨some 9, .load none false, [.t 8], none⟩,
      ⟨some 10, .bin .ne, [.t 7, .t 9], none⟩,
      ⟨some 11, .move, [.t 10], none⟩,
      ⟨some 12, .faddr 1, [.t 2], some (11, false)⟩,
      ⟨some 13, .load none false, [.t 12], some (11, false)⟩,
      ⟨some 14, .faddr 1, [.t 3], some (11, false)⟩,
      ⟨some 15, .load none false, [.t 14], some (11, false)⟩,
      ⟨some 16, .bin .ne, [.t 13, .t 15], some (11, false)⟩,
      ⟨some 17, .pick, [.t 11, .k (.b true), .t 16], none⟩,
      ⟨some 18, .move, [.t 17], none⟩,
      ⟨some 19, .faddr 2, [.t 2], some (18, false)⟩,
      ⟨some 20, .load none false, [.t 19], some (18, false)⟩,
      ⟨some 21, .faddr 2, [.t 3], some (18, false)⟩,
      ⟨some 22, .load none false, [.t 21], some (18, false)⟩,
      ⟨some 23, .bin .ne, [.t 20, .t 22], some (18, false)⟩,
      ⟨some 24, .pick, [.t 18, .k (.b true), .t 23], none⟩,
      ⟨some 25, .move, [.t 24], none⟩,
      ⟨some 26, .faddr 3, [.t 2], some (25, false)⟩,
      ⟨some 27, .load none false, [.t 26], some (25, false)⟩,
      ⟨some 28, .len, [.t 27], some (25, false)⟩,
      ⟨some 29, .faddr 3, [.t 3], some (25, false)⟩,
      ⟨some 30, .load none false, [.t 29], some (25, false)⟩,
      ⟨some 31, .len, [.t 30], some (25, false)⟩,
      ⟨some 32, .bin .ne, [.t 28, .t 31], some (25, false)⟩,
      ⟨some 33, .pick, [.t 25, .k (.b true), .t 32], none⟩] [2, 3, 33] [2, 3])
    (.cond (.t 33)
     (.seq
      (.reg [] [⟨some 4, .move, [.k (.b false)], none⟩] [4] [])
      .ret)
     .skip))
   (.seq
    (.seq
     (.reg [] [⟨some 5, .move, [.k (.i 0)], none⟩] [2, 3, 5] [2, 3])
     (.block 0
      (.loop [2, 3, 5] [2, 3] c25l0)))
    (.seq
     (.reg [] [⟨some 4, .move, [.k (.b true)], none⟩] [4] [])
     .ret))))
def a25 : AF := ⟨c25, [.tmp 4]⟩
def b22l0 : AC :=
 (.seq
  (.reg [] [⟨some 14, .bin .lt, [.t 13, .k (.i 30)], none⟩] [3, 12, 13, 14] [6, 21])
  (.seq
   (.cond (.t 14)
    .skip
    (.exit 0))
   (.seq
    (.block 1
     (.seq
      (.reg [] [⟨some 15, .move, [.t 13], none⟩,
        ⟨some 16, .idx none 1 30, [.t 12, .t 13], none⟩,
        ⟨some 4, .move, [.t 15], none⟩,
        ⟨some 5, .move, [.t 16], none⟩] [3, 4, 5, 12, 13] [6, 21])
      (.seq
       (.reg [] [⟨some 17, .move, [.t 5], none⟩] [3, 4, 12, 13, 17] [6, 21])
       (.cond (.t 17)
        (.reg [] [⟨some 18, .move, [.t 3], none⟩,
          ⟨some 19, .move, [.t 4], none⟩,
          ⟨some 20, .bslice 1 true, [.t 19], none⟩,
          ⟨some 21, .append 1 true, [.t 18, .t 20], none⟩,
          ⟨some 3, .move, [.t 21], none⟩] [3, 12, 13] [6, 21])
        .skip))))
    (.reg [] [⟨some 22, .bin .add, [.t 13, .k (.i 1)], none⟩,
      ⟨some 13, .move, [.t 22], none⟩] [3, 12, 13] [6, 21]))))
def c22l0 : AC := b22l0
theorem r22l0 (call lp s) : run call lp c22l0 s = run call lp b22l0 s := rfl
/-- impl.PiFree -/
def c22 : AC :=
 (.seq
  (.reg [] [⟨some 1, .box, [.t 0], none⟩,
    ⟨some 2, .move, [.k (.nils)], none⟩] [1] [1])
  (.seq
   (.reg [] [⟨some 6, .bslice 1 true, [], none⟩,
     ⟨some 3, .move, [.t 6], none⟩] [1, 3] [1, 6, 21])
   (.seq
    (.seq
     (.reg [] [⟨some 7, .load (some 4) false, [.t 1], none⟩,
       ⟨some 8, .call [] false, [.f 17, .t 7], none⟩,
       ⟨some 9, .not, [.t 8], none⟩] [1, 3, 9] [1, 6, 21])
     (.cond (.t 9)
      (.seq
       (.reg [] [⟨some 10, .move, [.t 3], none⟩,
         ⟨some 2, .move, [.t 10], none⟩] [2] [6, 21])
       .ret)
      .skip))
    (.seq
     (.seq
      (.reg [] [⟨some 11, .load (some 4) false, [.t 1], none⟩,
        ⟨some 12, .call [] false, [.f 40, .t 11], none⟩,
        ⟨some 13, .move, [.k (.i 0)], none⟩] [3, 12, 13] [6, 21])
      (.block 0
       (.loop [3, 12, 13] [6, 21] c22l0)))
     (.seq
      (.reg [] [⟨some 23, .move, [.t 3], none⟩,
        ⟨some 2, .move, [.t 23], none⟩] [2] [6, 21])
      .ret)))))
def a22 : AF := ⟨c22, [.tmp 2]⟩
def b21l0 : AC :=
 (.seq
  (.seq
   (.reg [] [⟨some 6, .move, [.t 5], none⟩,
     ⟨some 7, .move, [.t 0], none⟩,
     ⟨some 8, .len, [.t 7], none⟩,
     ⟨some 9, .bin .lt, [.t 6, .t 8], none⟩] [0, 1, 5, 9] [])
   (.cond (.t 9)
    .skip
    (.exit 0)))
  (.seq
   (.block 1
    (.seq
     (.reg [] [⟨some 12, .move, [.t 0], none⟩,
       ⟨some 13, .move, [.t 5], none⟩,
       ⟨some 14, .iaddr 1, [.t 12, .t 13], none⟩,
       ⟨some 15, .load none false, [.t 14], none⟩,
       ⟨some 16, .move, [.t 1], none⟩,
       ⟨some 17, .bin .eq, [.t 15, .t 16], none⟩] [0, 1, 5, 17] [])
     (.cond (.t 17)
      (.seq
       (.reg [] [⟨some 4, .move, [.k (.b true)], none⟩] [4] [])
       .ret)
      .skip)))
   (.reg [] [⟨some 10, .move, [.t 5], none⟩,
     ⟨some 11, .bin .add, [.t 10, .k (.i 1)], none⟩,
     ⟨some 5, .move, [.t 11], none⟩] [0, 1, 5] [])))
def c21l0 : AC := b21l0
theorem r21l0 (call lp s) : run call lp c21l0 s = run call lp b21l0 s := rfl
/-- laws.mnHas -/
def c21 : AC :=
 (.seq
  (.reg [] [⟨some 4, .move, [.k (.b false)], none⟩] [0, 1] [])
  (.seq
   (.seq
    (.reg [] [⟨some 5, .move, [.k (.i 0)], none⟩] [0, 1, 5] [])
    (.block 0
     (.loop [0, 1, 5] [] c21l0)))
   (.seq
    (.reg [] [⟨some 4, .move, [.k (.b false)], none⟩] [4] [])
    .ret)))
def a21 : AF := ⟨c21, [.tmp 4]⟩
/-- impl.piKey$1 -/
def c58 : AC :=
 (.seq
  (.reg [] [⟨some 3, .move, [.k (.s ⟨#[]⟩)], none⟩] [0, 1] [])
  (.seq
   (.seq
    (.reg [] [⟨some 7, .load none false, [.t 1], none⟩,
      ⟨some 8, .move, [.t 0], none⟩,
      ⟨some 9, .lookup false (.s ⟨#[]⟩) true, [.t 7, .t 8], none⟩,
      ⟨some 6, .move, [.t 9], none⟩,
      ⟨some 10, .ext 0, [.t 6], none⟩,
      ⟨some 11, .ext 1, [.t 6], none⟩,
      ⟨some 4, .move, [.t 10], none⟩,
      ⟨some 5, .move, [.t 11], none⟩] [0, 4, 5] [])
    (.seq
     (.reg [] [⟨some 12, .move, [.t 5], none⟩] [0, 4, 12] [])
     (.cond (.t 12)
      (.seq
       (.reg [] [⟨some 13, .move, [.t 4], none⟩,
         ⟨some 3, .move, [.t 13], none⟩] [3] [])
       .ret)
      .skip)))
   (.seq
    (.reg [] [⟨some 14, .move, [.t 0], none⟩,
      ⟨some 15, .call [] false, [.f 59, .t 14], none⟩,
      ⟨some 16, .bin .add, [.k (.s ⟨#[110]⟩), .t 15], none⟩,
      ⟨some 3, .move, [.t 16], none⟩] [3] [])
    .ret)))
def a58 : AF := ⟨c58, [.tmp 3]⟩
/-- impl.piKey$2 -/
def c60 : AC :=
 (.seq
  (.reg [] [⟨some 5, .move, [.k (.s ⟨#[]⟩)], none⟩] [0, 1, 2, 3] [])
  (.seq
   (.reg [0, 1, 2, 3, 4, 5, 6, 7, 8] [⟨some 6, .faddr 3, [.t 1], none⟩,
     ⟨some 7, .load none false, [.t 6], none⟩,
     ⟨some 8, .move, [.t 0], none⟩,
     ⟨some 9, .iaddr 4, [.t 7, .t 8], none⟩,
     ⟨some 10, .load (some 4) false, [.t 9], none⟩,
     ⟨some 11, .load none false, [.t 2], none⟩,
     ⟨some 12, .load none false, [.t 3], none⟩,
     ⟨some 13, .call [] false, [.f 46, .t 10, .t 11, .t 12], none⟩,
     ⟨some 5, .move, [.t 13], none⟩] [5] [])
   .ret))
def a60 : AF := ⟨c60, [.tmp 5]⟩
def b46l0 : AC :=
 (.reg [] [⟨some 31, .load none false, [.t 8], none⟩,
   ⟨some 32, .move, [.t 11], none⟩,
   ⟨some 33, .move, [.t 12], none⟩,
   ⟨none, .mapset false, [.t 31, .t 32, .t 33], none⟩] [3, 5, 7, 8, 9, 10, 25] [3, 4, 5, 8, 23])
def c46l0 : AC := b46l0
theorem r46l0 (s) : runB c46l0 s = runB b46l0 s := rfl
/-- impl.piKey -/
def c46 : AC :=
 (.seq
  (.reg [] [⟨some 3, .box, [.t 0], none⟩,
    ⟨some 4, .box, [.t 1], none⟩,
    ⟨some 5, .box, [.t 2], none⟩,
    ⟨some 6, .move, [.k (.s ⟨#[]⟩)], none⟩] [3, 4, 5] [3, 4, 5])
  (.seq
   (.reg [] [⟨some 14, .mkfunc 58, [.t 4], none⟩,
     ⟨some 7, .move, [.t 14], none⟩] [3, 4, 5, 7] [3, 4, 5])
   (.seq
    (.reg [] [⟨some 15, .load none false, [.t 4], none⟩,
      ⟨some 8, .alloc [.sc (.map none)], [], none⟩,
      ⟨none, .store 1 true, [.t 8, .t 15], none⟩,
      ⟨some 9, .move, [.k (.s ⟨#[]⟩)], none⟩] [3, 4, 5, 7, 8, 9] [3, 4, 5, 8, 23])
    (.seq
     (.seq
      (.reg [] [⟨some 16, .load (some 4) false, [.t 3], none⟩,
        ⟨some 17, .call [] false, [.f 53, .t 16], none⟩,
        ⟨some 10, .move, [.t 17], none⟩] [3, 4, 5, 7, 8, 9, 10] [3, 4, 5, 8, 23])
      (.seq
       (.reg [] [⟨some 18, .move, [.t 10], none⟩,
         ⟨some 19, .bin .ge, [.t 18, .k (.i 0)], none⟩] [3, 4, 5, 7, 8, 9, 10, 19] [3, 4, 5, 8, 23])
       (.cond (.t 19)
        (.seq
         (.reg [] [⟨some 20, .load none false, [.t 5], none⟩,
           ⟨some 21, .call [] false, [.f 59, .t 20], none⟩,
           ⟨some 22, .bin .add, [.k (.s ⟨#[35]⟩), .t 21], none⟩,
           ⟨some 9, .move, [.t 22], none⟩] [3, 4, 5, 7, 8, 9, 10] [3, 4, 5, 8, 23])
         (.seq
          (.reg [] [⟨some 23, .mkmap false, [], none⟩,
            ⟨none, .store 1 true, [.t 8, .t 23], none⟩] [3, 4, 5, 7, 8, 9, 10] [3, 4, 5, 8, 23])
          (.seq
           (.mrange [⟨some 24, .load none false, [.t 4], none⟩] (.t 24) 25 26 27 28 [⟨some 29, .ext 0, [.t 28], none⟩,
             ⟨some 30, .ext 1, [.t 28], none⟩,
             ⟨some 11, .move, [.t 29], none⟩,
             ⟨some 12, .move, [.t 30], none⟩] [3, 5, 7, 8, 9, 10, 11, 12, 25] [3, 4, 5, 8, 23] c46l0 [3, 5, 7, 8, 9, 10, 25] [3, 4, 5, 8, 23] [3, 5, 7, 8, 9, 10] [3, 4, 5, 8, 23])
           (.seq
            (.reg [] [⟨some 34, .load none false, [.t 8], none⟩,
              ⟨some 35, .move, [.t 10], none⟩,
              ⟨some 36, .move, [.t 9], none⟩,
              ⟨none, .mapset false, [.t 34, .t 35, .t 36], none⟩] [3, 5, 7, 8, 9] [3, 4, 5, 8, 23])
            (.reg [] [⟨some 37, .load none false, [.t 5], none⟩,
              ⟨some 38, .bin .add, [.t 37, .k (.i 1)], none⟩,
              ⟨none, .store 1 true, [.t 5, .t 38], none⟩] [3, 5, 7, 8, 9] [3, 4, 5, 8, 23])))))
        .skip)))
     (.seq
      (.reg [] [⟨some 39, .mkfunc 60, [.t 3, .t 8, .t 5], none⟩,
        ⟨some 13, .move, [.t 39], none⟩] [3, 7, 9, 13] [3, 4, 5, 8, 23])
      (.seq
       (.seq
        (.reg [] [⟨some 40, .faddr 0, [.t 3], none⟩,
          ⟨some 41, .load none false, [.t 40], none⟩] [3, 7, 9, 13, 41] [3, 4, 5, 8, 23])
        (.block 2
         (.seq
          (.reg [] [⟨some 43, .bin .eq, [.t 41, .k (.i 1)], none⟩,
            ⟨some 42, .move, [.t 43], none⟩] [3, 7, 9, 13, 41, 42] [3, 4, 5, 8, 23])
          (.cond (.t 42)
           (.seq
            (.reg [0, 1, 2, 7, 10, 11, 3, 4, 5, 12, 13, 14, 6, 15, 16, 17, 18] [⟨some 44, .move, [.t 7], none⟩,
              ⟨some 45, .faddr 1, [.t 3], none⟩,
              ⟨some 46, .load none false, [.t 45], none⟩,
              ⟨some 50, .move, [.t 7], none⟩,
              ⟨some 51, .faddr 2, [.t 3], none⟩,
              ⟨some 52, .load none false, [.t 51], none⟩,
              ⟨some 56, .move, [.t 13], none⟩,
              ⟨some 47, .call [] false, [.t 44, .t 46], none⟩,
              ⟨none, .chk (.faddr 2), [.t 51, .t 3], none⟩,
              ⟨none, .chk (.load none false), [.t 52, .t 51], none⟩,
              ⟨some 48, .bin .add, [.k (.s ⟨#[40]⟩), .t 47], none⟩,
              ⟨some 49, .bin .add, [.t 48, .k (.s ⟨#[33]⟩)], none⟩,
              ⟨some 53, .call [] false, [.t 50, .t 52], none⟩,
              ⟨some 54, .bin .add, [.t 49, .t 53], none⟩,
              ⟨some 55, .bin .add, [.t 54, .k (.s ⟨#[32]⟩)], none⟩,
              ⟨some 57, .call [] false, [.t 56, .k (.i 0)], none⟩,
              ⟨some 58, .bin .add, [.t 55, .t 57], none⟩,
              ⟨some 59, .bin .add, [.t 58, .k (.s ⟨#[41]⟩)], none⟩,
              ⟨some 6, .move, [.t 59], none⟩] [6] [])
            .ret)
           (.seq
            (.reg [] [⟨some 61, .bin .eq, [.t 41, .k (.i 2)], none⟩,
              ⟨some 60, .move, [.t 61], none⟩] [3, 7, 9, 13, 41, 60] [3, 4, 5, 8, 23])
            (.cond (.t 60)
             (.seq
              (.reg [] [⟨some 62, .move, [.t 7], none⟩,
                ⟨some 63, .faddr 1, [.t 3], none⟩,
                ⟨some 64, .load none false, [.t 63], none⟩,
                ⟨some 65, .call [] false, [.t 62, .t 64], none⟩,
                ⟨some 66, .bin .add, [.k (.s ⟨#[40]⟩), .t 65], none⟩,
                ⟨some 67, .bin .add, [.t 66, .k (.s ⟨#[63]⟩)], none⟩,
                ⟨some 68, .move, [.t 9], none⟩,
                ⟨some 69, .bin .add, [.t 67, .t 68], none⟩,
                ⟨some 70, .bin .add, [.t 69, .k (.s ⟨#[32]⟩)], none⟩,
                ⟨some 71, .move, [.t 13], none⟩,
                ⟨some 72, .call [] false, [.t 71, .k (.i 0)], none⟩,
                ⟨some 73, .bin .add, [.t 70, .t 72], none⟩,
                ⟨some 74, .bin .add, [.t 73, .k (.s ⟨#[41]⟩)], none⟩,
                ⟨some 6, .move, [.t 74], none⟩] [6] [])
              .ret)
             (.seq
              (.reg [] [⟨some 76, .bin .eq, [.t 41, .k (.i 3)], none⟩,
                ⟨some 75, .move, [.t 76], none⟩] [3, 7, 9, 13, 41, 75] [3, 4, 5, 8, 23])
              (.cond (.t 75)
               (.seq
                (.reg [] [⟨some 77, .move, [.t 13], none⟩,
                  ⟨some 78, .call [] false, [.t 77, .k (.i 0)], none⟩,
                  ⟨some 79, .bin .add, [.k (.s ⟨#[40, 116, 97, 117, 32]⟩), .t 78], none⟩,
                  ⟨some 80, .bin .add, [.t 79, .k (.s ⟨#[41]⟩)], none⟩,
                  ⟨some 6, .move, [.t 80], none⟩] [6] [])
                .ret)
               (.seq
                (.reg [] [⟨some 82, .bin .eq, [.t 41, .k (.i 4)], none⟩,
                  ⟨some 81, .move, [.t 82], none⟩] [3, 7, 9, 13, 41, 81] [3, 4, 5, 8, 23])
                (.cond (.t 81)
                 (.seq
                  (.reg [] [⟨some 83, .move, [.t 13], none⟩,
                    ⟨some 84, .call [] false, [.t 83, .k (.i 0)], none⟩,
                    ⟨some 85, .bin .add, [.k (.s ⟨#[40, 115, 117, 109, 32]⟩), .t 84], none⟩,
                    ⟨some 86, .bin .add, [.t 85, .k (.s ⟨#[32]⟩)], none⟩,
                    ⟨some 87, .move, [.t 13], none⟩,
                    ⟨some 88, .call [] false, [.t 87, .k (.i 1)], none⟩,
                    ⟨some 89, .bin .add, [.t 86, .t 88], none⟩,
                    ⟨some 90, .bin .add, [.t 89, .k (.s ⟨#[41]⟩)], none⟩,
                    ⟨some 6, .move, [.t 90], none⟩] [6] [])
                  .ret)
                 (.seq
                  (.reg [] [⟨some 92, .bin .eq, [.t 41, .k (.i 5)], none⟩,
                    ⟨some 91, .move, [.t 92], none⟩] [3, 7, 9, 13, 41, 91] [3, 4, 5, 8, 23])
                  (.cond (.t 91)
                   (.seq
                    (.reg [] [⟨some 93, .move, [.t 13], none⟩,
                      ⟨some 94, .call [] false, [.t 93, .k (.i 0)], none⟩,
                      ⟨some 95, .bin .add, [.k (.s ⟨#[40, 112, 97, 114, 32]⟩), .t 94], none⟩,
                      ⟨some 96, .bin .add, [.t 95, .k (.s ⟨#[32]⟩)], none⟩,
                      ⟨some 97, .move, [.t 13], none⟩,
                      ⟨some 98, .call [] false, [.t 97, .k (.i 1)], none⟩,
                      ⟨some 99, .bin .add, [.t 96, .t 98], none⟩,
                      ⟨some 100, .bin .add, [.t 99, .k (.s ⟨#[41]⟩)], none⟩,
                      ⟨some 6, .move, [.t 100], none⟩] [6] [])
                    .ret)
                   (.seq
                    (.reg [] [⟨some 102, .bin .eq, [.t 41, .k (.i 6)], none⟩,
                      ⟨some 101, .move, [.t 102], none⟩] [3, 7, 9, 13, 41, 101] [3, 4, 5, 8, 23])
                    (.cond (.t 101)
                     (.seq
                      (.reg [] [⟨some 103, .move, [.t 9], none⟩,
                        ⟨some 104, .bin .add, [.k (.s ⟨#[40, 110, 101, 119, 32]⟩), .t 103], none⟩,
                        ⟨some 105, .bin .add, [.t 104, .k (.s ⟨#[32]⟩)], none⟩,
                        ⟨some 106, .faddr 2, [.t 3], none⟩,
                        ⟨some 107, .load none false, [.t 106], none⟩,
                        ⟨some 108, .call [] false, [.f 59, .t 107], none⟩,
                        ⟨some 109, .bin .add, [.t 105, .t 108], none⟩,
                        ⟨some 110, .bin .add, [.t 109, .k (.s ⟨#[32]⟩)], none⟩,
                        ⟨some 111, .move, [.t 13], none⟩,
                        ⟨some 112, .call [] false, [.t 111, .k (.i 0)], none⟩,
                        ⟨some 113, .bin .add, [.t 110, .t 112], none⟩,
                        ⟨some 114, .bin .add, [.t 113, .k (.s ⟨#[41]⟩)], none⟩,
                        ⟨some 6, .move, [.t 114], none⟩] [6] [])
                      .ret)
                     (.seq
                      (.reg [] [⟨some 116, .bin .eq, [.t 41, .k (.i 7)], none⟩,
                        ⟨some 115, .move, [.t 116], none⟩] [3, 7, 13, 115] [3, 4, 5, 8, 23])
                      (.cond (.t 115)
                       (.seq
                        (.reg [0, 1, 2, 7, 10, 11, 3, 4, 5, 12, 13, 14, 6, 15, 16, 17, 18] [⟨some 117, .move, [.t 7], none⟩,
                          ⟨some 118, .faddr 1, [.t 3], none⟩,
                          ⟨some 119, .load none false, [.t 118], none⟩,
                          ⟨some 123, .move, [.t 7], none⟩,
                          ⟨some 124, .faddr 2, [.t 3], none⟩,
                          ⟨some 125, .load none false, [.t 124], none⟩,
                          ⟨some 129, .move, [.t 13], none⟩,
                          ⟨some 120, .call [] false, [.t 117, .t 119], none⟩,
                          ⟨none, .chk (.faddr 2), [.t 124, .t 3], none⟩,
                          ⟨none, .chk (.load none false), [.t 125, .t 124], none⟩,
                          ⟨some 121, .bin .add, [.k (.s ⟨#[40]⟩), .t 120], none⟩,
                          ⟨some 122, .bin .add, [.t 121, .k (.s ⟨#[61]⟩)], none⟩,
                          ⟨some 126, .call [] false, [.t 123, .t 125], none⟩,
                          ⟨some 127, .bin .add, [.t 122, .t 126], none⟩,
                          ⟨some 128, .bin .add, [.t 127, .k (.s ⟨#[32]⟩)], none⟩,
                          ⟨some 130, .call [] false, [.t 129, .k (.i 0)], none⟩,
                          ⟨some 131, .bin .add, [.t 128, .t 130], none⟩,
                          ⟨some 132, .bin .add, [.t 131, .k (.s ⟨#[41]⟩)], none⟩,
                          ⟨some 6, .move, [.t 132], none⟩] [6] [])
                        .ret)
                       .skip))))))))))))))))
       (.seq
        (.reg [] [⟨some 6, .move, [.k (.s ⟨#[48]⟩)], none⟩] [6] [])
        .ret)))))))
def a46 : AF := ⟨c46, [.tmp 6]⟩
/-- impl.keyOf -/
def c30 : AC :=
 (.seq
  (.reg [] [⟨some 1, .box, [.t 0], none⟩,
    ⟨some 2, .move, [.k (.s ⟨#[]⟩)], none⟩] [1] [1])
  (.seq
   (.reg [] [⟨some 3, .load (some 4) false, [.t 1], none⟩,
     ⟨some 4, .call [] false, [.f 46, .t 3, .k (.sc (.map none)), .k (.i 0)], none⟩,
     ⟨some 2, .move, [.t 4], none⟩] [2] [])
   .ret))
def a30 : AF := ⟨c30, [.tmp 2]⟩
/-- impl.PiAlphaSame -/
def c15 : AC :=
 (.seq
  (.reg [] [⟨some 2, .box, [.t 0], none⟩,
    ⟨some 3, .box, [.t 1], none⟩,
    ⟨some 4, .move, [.k (.b false)], none⟩] [2, 3] [2, 3])
  (.seq
   (.reg [0, 1, 2, 3, 4, 5, 6, 7, 9, 8, 11, 12, 13, 14] [⟨some 5, .load (some 4) false, [.t 2], none⟩,
     ⟨some 6, .call [] false, [.f 17, .t 5], none⟩,
     ⟨some 7, .move, [.t 6], none⟩,
     ⟨some 8, .load (some 4) false, [.t 3], some (7, true)⟩,
     ⟨some 9, .call [] false, [.f 17, .t 8], some (7, true)⟩,
     ⟨some 10, .pick, [.t 7, .t 9, .k (.b false)], none⟩,
     ⟨some 11, .move, [.t 10], none⟩,
     ⟨some 12, .load (some 4) false, [.t 2], some (11, true)⟩,
     ⟨some 14, .load (some 4) false, [.t 3], some (11, true)⟩,
     ⟨some 13, .call [] false, [.f 30, .t 12], some (11, true)⟩,
     ⟨none, .chk (.load (some 4) false), [.t 14, .t 3], some (11, true)⟩,
     ⟨some 15, .call [] false, [.f 30, .t 14], some (11, true)⟩,
     ⟨some 16, .bin .eq, [.t 13, .t 15], some (11, true)⟩,
     ⟨some 17, .pick, [.t 11, .t 16, .k (.b false)], none⟩,
     ⟨some 4, .move, [.t 17], none⟩] [4] [])
   .ret))
def a15 : AF := ⟨c15, [.tmp 4]⟩
def b7l0 : AC :=
 (.seq
  (.seq
   (.reg [] [⟨some 51, .move, [.t 12], none⟩,
     ⟨some 52, .bin .lt, [.t 51, .k (.i 30)], none⟩] [3, 4, 5, 6, 10, 11, 12, 52] [3, 6, 18, 26, 48, 50])
   (.cond (.t 52)
    .skip
    (.exit 0)))
  (.seq
   (.block 1
    (.seq
     (.reg [] [⟨some 55, .move, [.t 11], none⟩,
       ⟨some 56, .move, [.t 12], none⟩,
       ⟨some 57, .call [] false, [.f 21, .t 55, .t 56], none⟩,
       ⟨some 58, .move, [.t 10], none⟩,
       ⟨some 59, .move, [.t 12], none⟩,
       ⟨some 60, .call [] false, [.f 21, .t 58, .t 59], none⟩,
       ⟨some 61, .move, [.t 60], none⟩,
       ⟨some 62, .move, [.t 12], some (61, true)⟩,
       ⟨some 63, .move, [.t 4], some (61, true)⟩,
       ⟨some 64, .bin .ne, [.t 62, .t 63], some (61, true)⟩,
       ⟨some 65, .move, [.t 64], some (61, true)⟩,
       ⟨some 66, .move, [.t 4], some (65, false)⟩,
       ⟨some 67, .move, [.t 5], some (65, false)⟩,
       ⟨some 68, .bin .eq, [.t 66, .t 67], some (65, false)⟩,
       ⟨some 69, .pick, [.t 65, .k (.b true), .t 68], some (61, true)⟩,
       ⟨some 70, .pick, [.t 61, .t 69, .k (.b false)], none⟩,
       ⟨some 71, .move, [.t 70], none⟩,
       ⟨some 72, .move, [.t 12], some (71, false)⟩,
       ⟨some 73, .move, [.t 5], some (71, false)⟩,
       ⟨some 74, .bin .eq, [.t 72, .t 73], some (71, false)⟩,
       ⟨some 75, .move, [.t 74], some (71, false)⟩,
       ⟨some 76, .move, [.t 10], some (75, true)⟩,
       ⟨some 77, .move, [.t 4], some (75, true)⟩,
       ⟨some 78, .call [] false, [.f 21, .t 76, .t 77], some (75, true)⟩,
       ⟨some 79, .pick, [.t 75, .t 78, .k (.b false)], some (71, false)⟩,
       ⟨some 80, .pick, [.t 71, .k (.b true), .t 79], none⟩,
       ⟨some 81, .bne, [.t 57, .t 80], none⟩] [3, 4, 5, 6, 10, 11, 12, 81] [3, 6, 18, 26, 48, 50])
     (.cond (.t 81)
      (.seq
       (.reg [] [⟨some 2, .move, [.k (.b false)], none⟩] [2] [])
       .ret)
      .skip)))
   (.reg [] [⟨some 53, .move, [.t 12], none⟩,
     ⟨some 54, .bin .add, [.t 53, .k (.i 1)], none⟩,
     ⟨some 12, .move, [.t 54], none⟩] [3, 4, 5, 6, 10, 11, 12] [3, 6, 18, 26, 48, 50])))
def c7l0 : AC := b7l0
theorem r7l0 (call lp s) : run call lp c7l0 s = run call lp b7l0 s := rfl
/-- laws.FnPiPut -/
def c7 : AC :=
 (.seq
  (.reg [] [⟨some 2, .move, [.k (.b false)], none⟩] [0] [])
  (.seq
   (.seq
    (.reg [] [⟨some 13, .move, [.t 0], none⟩,
      ⟨some 14, .len, [.t 13], none⟩,
      ⟨some 15, .bin .gt, [.t 14, .k (.i 1048576)], none⟩] [0, 15] [])
    (.cond (.t 15)
     (.seq
      (.reg [] [⟨some 2, .move, [.k (.b true)], none⟩] [2] [])
      .ret)
     .skip))
   (.seq
    (.reg [] [⟨some 17, .move, [.t 0], none⟩,
      ⟨some 18, .call [] false, [.f 23, .t 17], none⟩,
      ⟨some 16, .move, [.t 18], none⟩,
      ⟨some 19, .ext 0, [.t 16], none⟩,
      ⟨some 20, .ext 1, [.t 16], none⟩,
      ⟨some 21, .ext 2, [.t 16], none⟩,
      ⟨some 3, .alloc [.i 0, .i 0, .i 0, .nils], [], none⟩,
      ⟨none, .store 4 true, [.t 3, .t 19], none⟩,
      ⟨some 4, .move, [.t 20], none⟩,
      ⟨some 5, .move, [.t 21], none⟩] [3, 4, 5] [3, 18])
    (.seq
     (.reg [] [⟨some 23, .load (some 4) false, [.t 3], none⟩,
       ⟨some 24, .move, [.t 4], none⟩,
       ⟨some 25, .move, [.t 5], none⟩,
       ⟨some 26, .call [] false, [.f 20, .t 23, .t 24, .t 25], none⟩,
       ⟨some 22, .move, [.t 26], none⟩,
       ⟨some 27, .ext 0, [.t 22], none⟩,
       ⟨some 28, .ext 1, [.t 22], none⟩,
       ⟨some 6, .alloc [.i 0, .i 0, .i 0, .nils], [], none⟩,
       ⟨none, .store 4 true, [.t 6, .t 27], none⟩,
       ⟨some 7, .move, [.t 28], none⟩] [3, 4, 5, 6, 7] [3, 6, 18, 26])
     (.seq
      (.reg [] [⟨some 30, .load (some 4) false, [.t 3], none⟩,
        ⟨some 31, .move, [.t 4], none⟩,
        ⟨some 32, .move, [.t 5], none⟩,
        ⟨some 33, .call [] false, [.f 24, .t 30, .t 31, .t 32], none⟩,
        ⟨some 29, .move, [.t 33], none⟩,
        ⟨some 34, .ext 0, [.t 29], none⟩,
        ⟨some 35, .ext 1, [.t 29], none⟩,
        ⟨some 8, .alloc [.i 0, .i 0, .i 0, .nils], [], none⟩,
        ⟨none, .store 4 true, [.t 8, .t 34], none⟩,
        ⟨some 9, .move, [.t 35], none⟩] [3, 4, 5, 6, 7, 8, 9] [3, 6, 8, 18, 26, 33])
      (.seq
       (.seq
        (.reg [] [⟨some 36, .load (some 4) false, [.t 6], none⟩,
          ⟨some 37, .load (some 4) false, [.t 8], none⟩,
          ⟨some 38, .call [] false, [.f 25, .t 36, .t 37], none⟩,
          ⟨some 39, .not, [.t 38], none⟩,
          ⟨some 40, .move, [.t 39], none⟩,
          ⟨some 41, .move, [.t 7], some (40, false)⟩,
          ⟨some 42, .move, [.t 9], some (40, false)⟩,
          ⟨some 43, .bne, [.t 41, .t 42], some (40, false)⟩,
          ⟨some 44, .pick, [.t 40, .k (.b true), .t 43], none⟩] [3, 4, 5, 6, 7, 44] [3, 6, 18, 26])
        (.cond (.t 44)
         (.seq
          (.reg [] [⟨some 2, .move, [.k (.b false)], none⟩] [2] [])
          .ret)
         .skip))
       (.seq
        (.seq
         (.reg [] [⟨some 45, .move, [.t 7], none⟩,
           ⟨some 46, .not, [.t 45], none⟩] [3, 4, 5, 6, 46] [3, 6, 18, 26])
         (.cond (.t 46)
          (.seq
           (.reg [] [⟨some 2, .move, [.k (.b true)], none⟩] [2] [])
           .ret)
          .skip))
        (.seq
         (.reg [0, 2, 1, 4, 5, 6] [⟨some 47, .load (some 4) false, [.t 3], none⟩,
           ⟨some 49, .load (some 4) false, [.t 6], none⟩,
           ⟨some 48, .call [] false, [.f 22, .t 47], none⟩,
           ⟨none, .chk (.load (some 4) false), [.t 49, .t 6], none⟩,
           ⟨some 50, .call [] false, [.f 22, .t 49], none⟩,
           ⟨some 10, .move, [.t 48], none⟩,
           ⟨some 11, .move, [.t 50], none⟩] [3, 4, 5, 6, 10, 11] [3, 6, 18, 26, 48, 50])
         (.seq
          (.seq
           (.reg [] [⟨some 12, .move, [.k (.i 0)], none⟩] [3, 4, 5, 6, 10, 11, 12] [3, 6, 18, 26, 48, 50])
           (.block 0
            (.loop [3, 4, 5, 6, 10, 11, 12] [3, 6, 18, 26, 48, 50] c7l0)))
          (.seq
           (.reg [] [⟨some 82, .load (some 4) false, [.t 6], none⟩,
             ⟨some 83, .call [] false, [.f 17, .t 82], none⟩,
             ⟨some 84, .move, [.t 83], none⟩,
             ⟨some 85, .move, [.t 10], some (84, true)⟩,
             ⟨some 86, .move, [.t 4], some (84, true)⟩,
             ⟨some 87, .call [] false, [.f 21, .t 85, .t 86], some (84, true)⟩,
             ⟨some 88, .move, [.t 87], some (84, true)⟩,
             ⟨some 89, .load (some 4) false, [.t 3], some (88, false)⟩,
             ⟨some 90, .load (some 4) false, [.t 6], some (88, false)⟩,
             ⟨some 91, .call [] false, [.f 15, .t 89, .t 90], some (88, false)⟩,
             ⟨some 92, .pick, [.t 88, .k (.b true), .t 91], some (84, true)⟩,
             ⟨some 93, .pick, [.t 84, .t 92, .k (.b false)], none⟩,
             ⟨some 2, .move, [.t 93], none⟩] [2] [])
           .ret))))))))))
def a7 : AF := ⟨c7, [.tmp 2]⟩
theorem ok32 : okF Tryd.prog 32 a32 = true := by kernel_rfl
theorem ok48 : okF Tryd.prog 48 a48 = true := by kernel_rfl
theorem ok41 : okF Tryd.prog 41 a41 = true := by kernel_rfl
theorem ok47 : okF Tryd.prog 47 a47 = true := by kernel_rfl
theorem ok49 : okF Tryd.prog 49 a49 = true := by kernel_rfl
theorem ok33 : okF Tryd.prog 33 a33 = true := by kernel_rfl
theorem ok23 : okF Tryd.prog 23 a23 = true := by kernel_rfl
theorem ok34 : okF Tryd.prog 34 a34 = true := by kernel_rfl
theorem ok38 : okF Tryd.prog 38 a38 = true := by kernel_rfl
theorem ok61 : okF Tryd.prog 61 a61 = true := by kernel_rfl
theorem ok50 : okF Tryd.prog 50 a50 = true := by kernel_rfl
theorem ok51 : okF Tryd.prog 51 a51 = true := by kernel_rfl
theorem ok35 : okF Tryd.prog 35 a35 = true := by kernel_rfl
theorem ok17 : okF Tryd.prog 17 a17 = true := by kernel_rfl
theorem ok52 : okF Tryd.prog 52 a52 = true := by kernel_rfl
theorem ok53 : okF Tryd.prog 53 a53 = true := by kernel_rfl
theorem ok55 : okF Tryd.prog 55 a55 = true := by kernel_rfl
theorem ok40 : okF Tryd.prog 40 a40 = true := by kernel_rfl
theorem ok54 : okF Tryd.prog 54 a54 = true := by kernel_rfl
theorem ok39 : okF Tryd.prog 39 a39 = true := by kernel_rfl
theorem ok20 : okF Tryd.prog 20 a20 = true := by kernel_rfl
theorem ok36 : okF Tryd.prog 36 a36 = true := by kernel_rfl
theorem ok42 : okF Tryd.prog 42 a42 = true := by kernel_rfl
theorem ok37 : okF Tryd.prog 37 a37 = true := by kernel_rfl
theorem ok18 : okF Tryd.prog 18 a18 = true := by kernel_rfl
theorem ok44 : okF Tryd.prog 44 a44 = true := by kernel_rfl
theorem ok62 : okF Tryd.prog 62 a62 = true := by kernel_rfl
theorem ok56 : okF Tryd.prog 56 a56 = true := by kernel_rfl
theorem ok57 : okF Tryd.prog 57 a57 = true := by kernel_rfl
theorem ok43 : okF Tryd.prog 43 a43 = true := by kernel_rfl
theorem ok24 : okF Tryd.prog 24 a24 = true := by kernel_rfl
theorem ok25 : okF Tryd.prog 25 a25 = true := by kernel_rfl
theorem ok22 : okF Tryd.prog 22 a22 = true := by kernel_rfl
theorem ok21 : okF Tryd.prog 21 a21 = true := by kernel_rfl
theorem ok58 : okF Tryd.prog 58 a58 = true := by kernel_rfl
theorem ok60 : okF Tryd.prog 60 a60 = true := by kernel_rfl
theorem ok46 : okF Tryd.prog 46 a46 = true := by kernel_rfl
theorem ok30 : okF Tryd.prog 30 a30 = true := by kernel_rfl
theorem ok15 : okF Tryd.prog 15 a15 = true := by kernel_rfl
theorem ok7 : okF Tryd.prog 7 a7 = true := by kernel_rfl
def codes : Nat → Option AF
  | 32 => some a32
  | 48 => some a48
  | 41 => some a41
  | 47 => some a47
  | 49 => some a49
  | 33 => some a33
  | 23 => some a23
  | 34 => some a34
  | 38 => some a38
  | 61 => some a61
  | 50 => some a50
  | 51 => some a51
  | 35 => some a35
  | 17 => some a17
  | 52 => some a52
  | 53 => some a53
  | 55 => some a55
  | 40 => some a40
  | 54 => some a54
  | 39 => some a39
  | 20 => some a20
  | 36 => some a36
  | 42 => some a42
  | 37 => some a37
  | 18 => some a18
  | 44 => some a44
  | 62 => some a62
  | 56 => some a56
  | 57 => some a57
  | 43 => some a43
  | 24 => some a24
  | 25 => some a25
  | 22 => some a22
  | 21 => some a21
  | 58 => some a58
  | 60 => some a60
  | 46 => some a46
  | 30 => some a30
  | 15 => some a15
  | 7 => some a7
  | _ => none
def G0 : Prog := ⟨codes, fun _ => none⟩
theorem g32 : codes 32 = some a32 := rfl
theorem g48 : codes 48 = some a48 := rfl
theorem g41 : codes 41 = some a41 := rfl
theorem g47 : codes 47 = some a47 := rfl
theorem g49 : codes 49 = some a49 := rfl
theorem g33 : codes 33 = some a33 := rfl
theorem g23 : codes 23 = some a23 := rfl
theorem g34 : codes 34 = some a34 := rfl
theorem g38 : codes 38 = some a38 := rfl
theorem g61 : codes 61 = some a61 := rfl
theorem g50 : codes 50 = some a50 := rfl
theorem g51 : codes 51 = some a51 := rfl
theorem g35 : codes 35 = some a35 := rfl
theorem g17 : codes 17 = some a17 := rfl
theorem g52 : codes 52 = some a52 := rfl
theorem g53 : codes 53 = some a53 := rfl
theorem g55 : codes 55 = some a55 := rfl
theorem g40 : codes 40 = some a40 := rfl
theorem g54 : codes 54 = some a54 := rfl
theorem g39 : codes 39 = some a39 := rfl
theorem g20 : codes 20 = some a20 := rfl
theorem g36 : codes 36 = some a36 := rfl
theorem g42 : codes 42 = some a42 := rfl
theorem g37 : codes 37 = some a37 := rfl
theorem g18 : codes 18 = some a18 := rfl
theorem g44 : codes 44 = some a44 := rfl
theorem g62 : codes 62 = some a62 := rfl
theorem g56 : codes 56 = some a56 := rfl
theorem g57 : codes 57 = some a57 := rfl
theorem g43 : codes 43 = some a43 := rfl
theorem g24 : codes 24 = some a24 := rfl
theorem g25 : codes 25 = some a25 := rfl
theorem g22 : codes 22 = some a22 := rfl
theorem g21 : codes 21 = some a21 := rfl
theorem g58 : codes 58 = some a58 := rfl
theorem g60 : codes 60 = some a60 := rfl
theorem g46 : codes 46 = some a46 := rfl
theorem g30 : codes 30 = some a30 := rfl
theorem g15 : codes 15 = some a15 := rfl
theorem g7 : codes 7 = some a7 := rfl
theorem progOK0 : ProgOK Tryd.prog G0 := by
  refine ⟨by kernel_rfl, fun f af _ h => ?_, fun f p h => by cases h⟩
  simp only [G0] at h
  unfold codes at h
  split at h
  · cases h; exact ok32
  · cases h; exact ok48
  · cases h; exact ok41
  · cases h; exact ok47
  · cases h; exact ok49
  · cases h; exact ok33
  · cases h; exact ok23
  · cases h; exact ok34
  · cases h; exact ok38
  · cases h; exact ok61
  · cases h; exact ok50
  · cases h; exact ok51
  · cases h; exact ok35
  · cases h; exact ok17
  · cases h; exact ok52
  · cases h; exact ok53
  · cases h; exact ok55
  · cases h; exact ok40
  · cases h; exact ok54
  · cases h; exact ok39
  · cases h; exact ok20
  · cases h; exact ok36
  · cases h; exact ok42
  · cases h; exact ok37
  · cases h; exact ok18
  · cases h; exact ok44
  · cases h; exact ok62
  · cases h; exact ok56
  · cases h; exact ok57
  · cases h; exact ok43
  · cases h; exact ok24
  · cases h; exact ok25
  · cases h; exact ok22
  · cases h; exact ok21
  · cases h; exact ok58
  · cases h; exact ok60
  · cases h; exact ok46
  · cases h; exact ok30
  · cases h; exact ok15
  · cases h; exact ok7
  · cases h
end Go.Am
end
