/- The code of the functions for the abstract machine and its check. -/
import Derived.Test.YtmangpajpmpjgaaAmC
import Derived.Test.YtmangpajpmpjgaaProg
import Derived.KernelRfl
section
set_option maxRecDepth 100000
namespace Go.Am
open Go.Proofs
def b35l0 : AC :=
 (.seq
  (.seq
   (.reg [] [⟨some 12, .move, [.t 5], none⟩,
     ⟨some 13, .move, [.t 0], none⟩,
     ⟨some 14, .len, [.t 13], none⟩,
     ⟨some 15, .bin .lt, [.t 12, .t 14], none⟩] [0, 1, 5, 15] [])
   (.cond (.t 15)
    .skip
    (.exit 0)))
  (.seq
   (.block 1
    (.seq
     (.reg [] [⟨some 18, .move, [.t 0], none⟩,
       ⟨some 19, .move, [.t 5], none⟩,
       ⟨some 20, .iaddr 4, [.t 18, .t 19], none⟩,
       ⟨some 21, .load (some 4) false, [.t 20], none⟩,
       ⟨some 22, .move, [.t 1], none⟩,
       ⟨some 23, .call [] false, [.f 9, .t 21, .t 22], none⟩,
       ⟨some 1, .move, [.t 23], none⟩] [0, 1, 5] [])
     (.seq
      (.reg [] [⟨some 24, .move, [.t 1], none⟩,
        ⟨some 25, .bin .lt, [.t 24, .k (.i 0)], none⟩] [0, 1, 5, 25] [])
      (.cond (.t 25)
       (.seq
        (.reg [] [⟨some 4, .move, [.k (.i (-1))], none⟩] [4] [])
        .ret)
       .skip))))
   (.reg [] [⟨some 16, .move, [.t 5], none⟩,
     ⟨some 17, .bin .add, [.t 16, .k (.i 1)], none⟩,
     ⟨some 5, .move, [.t 17], none⟩] [0, 1, 5] [])))
def c35l0 : AC := b35l0
theorem r35l0 (call lp s) : run call lp c35l0 s = run call lp b35l0 s := rfl
/-- laws.szPiS -/
def c35 : AC :=
 (.seq
  (.reg [] [⟨some 4, .move, [.k (.i 0)], none⟩] [0, 1] [])
  (.seq
   (.reg [] [⟨some 6, .move, [.t 1], none⟩,
     ⟨some 7, .move, [.t 0], none⟩,
     ⟨some 8, .len, [.t 7], none⟩,
     ⟨some 9, .bin .sub, [.t 6, .t 8], none⟩,
     ⟨some 1, .move, [.t 9], none⟩] [0, 1] [])
   (.seq
    (.seq
     (.reg [] [⟨some 10, .move, [.t 1], none⟩,
       ⟨some 11, .bin .lt, [.t 10, .k (.i 0)], none⟩] [0, 1, 11] [])
     (.cond (.t 11)
      (.seq
       (.reg [] [⟨some 4, .move, [.k (.i (-1))], none⟩] [4] [])
       .ret)
      .skip))
    (.seq
     (.seq
      (.reg [] [⟨some 5, .move, [.k (.i 0)], none⟩] [0, 1, 5] [])
      (.block 0
       (.loop [0, 1, 5] [] c35l0)))
     (.seq
      (.reg [] [⟨some 26, .move, [.t 1], none⟩,
        ⟨some 4, .move, [.t 26], none⟩] [4] [])
      .ret)))))
def a35 : AF := ⟨c35, [.tmp 4]⟩
/-- laws.szPi -/
def c9 : AC :=
 (.seq
  (.reg [] [⟨some 2, .box, [.t 0], none⟩,
    ⟨some 4, .move, [.k (.i 0)], none⟩] [1, 2] [2])
  (.seq
   (.reg [] [⟨some 5, .faddr 3, [.t 2], none⟩,
     ⟨some 6, .load none false, [.t 5], none⟩,
     ⟨some 7, .move, [.t 1], none⟩,
     ⟨some 8, .call [] false, [.f 35, .t 6, .t 7], none⟩,
     ⟨some 1, .move, [.t 8], none⟩] [1] [])
   (.seq
    (.seq
     (.reg [] [⟨some 9, .move, [.t 1], none⟩,
       ⟨some 10, .bin .lt, [.t 9, .k (.i 0)], none⟩] [1, 10] [])
     (.cond (.t 10)
      (.seq
       (.reg [] [⟨some 4, .move, [.k (.i (-1))], none⟩] [4] [])
       .ret)
      .skip))
    (.seq
     (.reg [] [⟨some 11, .move, [.t 1], none⟩,
       ⟨some 4, .move, [.t 11], none⟩] [4] [])
     .ret))))
def a9 : AF := ⟨c9, [.tmp 4]⟩
def b38l0 : AC :=
 (.seq
  (.seq
   (.reg [] [⟨some 8, .move, [.t 4], none⟩,
     ⟨some 9, .move, [.t 0], none⟩,
     ⟨some 10, .len, [.t 9], none⟩,
     ⟨some 11, .bin .lt, [.t 8, .t 10], none⟩] [0, 3, 4, 11] [7])
   (.cond (.t 11)
    .skip
    (.exit 0)))
  (.seq
   (.block 1
    (.reg [] [⟨some 14, .move, [.t 3], none⟩,
      ⟨some 15, .move, [.t 4], none⟩,
      ⟨some 16, .move, [.t 0], none⟩,
      ⟨some 17, .move, [.t 4], none⟩,
      ⟨some 18, .iaddr 4, [.t 16, .t 17], none⟩,
      ⟨some 19, .load (some 4) false, [.t 18], none⟩,
      ⟨some 20, .call [] false, [.f 11, .t 19], none⟩,
      ⟨some 21, .iaddr 4, [.t 14, .t 15], none⟩,
      ⟨none, .store 4 true, [.t 21, .t 20], none⟩] [0, 3, 4] [7]))
   (.reg [] [⟨some 12, .move, [.t 4], none⟩,
     ⟨some 13, .bin .add, [.t 12, .k (.i 1)], none⟩,
     ⟨some 4, .move, [.t 13], none⟩] [0, 3, 4] [7])))
def c38l0 : AC := b38l0
theorem r38l0 (call lp s) : run call lp c38l0 s = run call lp b38l0 s := rfl
/-- laws.toPiS -/
def c38 : AC :=
 (.seq
  (.reg [] [⟨some 2, .move, [.k (.nils)], none⟩] [0] [])
  (.seq
   (.reg [] [⟨some 5, .move, [.t 0], none⟩,
     ⟨some 6, .len, [.t 5], none⟩,
     ⟨some 7, .mkslice 4 (.agg [.i 0, .i 0, .i 0, .nils]), [.t 6, .t 6], none⟩,
     ⟨some 3, .move, [.t 7], none⟩] [0, 3] [7])
   (.seq
    (.seq
     (.reg [] [⟨some 4, .move, [.k (.i 0)], none⟩] [0, 3, 4] [7])
     (.block 0
      (.loop [0, 3, 4] [7] c38l0)))
    (.seq
     (.reg [] [⟨some 22, .move, [.t 3], none⟩,
       ⟨some 2, .move, [.t 22], none⟩] [2] [7])
     .ret))))
def a38 : AF := ⟨c38, [.tmp 2]⟩
/-- laws.toPi -/
def c11 : AC :=
 (.seq
  (.reg [] [⟨some 1, .box, [.t 0], none⟩,
    ⟨some 2, .alloc [.i 0, .i 0, .i 0, .nils], [], none⟩] [1, 2] [1, 2, 15])
  (.seq
   (.reg [] [⟨some 3, .alloc [.i 0, .i 0, .i 0, .nils], [], none⟩] [1, 2, 3] [1, 2, 3, 15])
   (.seq
    (.reg [] [⟨some 4, .faddr 0, [.t 1], none⟩,
      ⟨some 5, .load none false, [.t 4], none⟩,
      ⟨some 6, .faddr 0, [.t 3], none⟩,
      ⟨none, .store 1 true, [.t 6, .t 5], none⟩] [1, 2, 3] [1, 2, 3, 15])
    (.seq
     (.reg [] [⟨some 7, .faddr 1, [.t 1], none⟩,
       ⟨some 8, .load none false, [.t 7], none⟩,
       ⟨some 9, .faddr 1, [.t 3], none⟩,
       ⟨none, .store 1 true, [.t 9, .t 8], none⟩] [1, 2, 3] [1, 2, 3, 15])
     (.seq
      (.reg [] [⟨some 10, .faddr 2, [.t 1], none⟩,
        ⟨some 11, .load none false, [.t 10], none⟩,
        ⟨some 12, .faddr 2, [.t 3], none⟩,
        ⟨none, .store 1 true, [.t 12, .t 11], none⟩] [1, 2, 3] [1, 2, 3, 15])
      (.seq
       (.reg [] [⟨some 13, .faddr 3, [.t 1], none⟩,
         ⟨some 14, .load none false, [.t 13], none⟩,
         ⟨some 15, .call [] false, [.f 38, .t 14], none⟩,
         ⟨some 16, .faddr 3, [.t 3], none⟩,
         ⟨none, .store 1 true, [.t 16, .t 15], none⟩] [2, 3] [2, 3, 15])
       (.seq
        (.reg [] [⟨some 17, .load (some 4) false, [.t 3], none⟩,
          ⟨none, .store 4 true, [.t 2, .t 17], none⟩] [2] [2, 15])
        .ret)))))))
def a11 : AF := ⟨c11, [.cell 2 (some 4)]⟩
/-- spec.l6In -/
def c36 : AC :=
 (.seq
  (.reg [] [⟨some 6, .move, [.k (.b false)], none⟩] [0, 1, 2] [])
  (.seq
   (.reg [] [⟨some 7, .move, [.t 0], none⟩,
     ⟨some 8, .move, [.t 1], none⟩,
     ⟨some 9, .bin .ge, [.t 7, .t 8], none⟩,
     ⟨some 10, .move, [.t 9], none⟩,
     ⟨some 11, .move, [.t 0], some (10, true)⟩,
     ⟨some 12, .move, [.t 2], some (10, true)⟩,
     ⟨some 13, .bin .le, [.t 11, .t 12], some (10, true)⟩,
     ⟨some 14, .pick, [.t 10, .t 13, .k (.b false)], none⟩,
     ⟨some 6, .move, [.t 14], none⟩] [6] [])
   .ret))
def a36 : AF := ⟨c36, [.tmp 6]⟩
/-- spec.l13Name -/
def c56 : AC :=
 (.seq
  (.reg [] [⟨some 2, .move, [.k (.b false)], none⟩] [0] [])
  (.seq
   (.reg [] [⟨some 3, .move, [.t 0], none⟩,
     ⟨some 4, .call [] false, [.f 36, .t 3, .k (.i 0), .k (.i 29)], none⟩,
     ⟨some 2, .move, [.t 4], none⟩] [2] [])
   .ret))
def a56 : AF := ⟨c56, [.tmp 2]⟩
def b37l0 : AC :=
 (.seq
  (.seq
   (.reg [] [⟨some 70, .move, [.t 6], none⟩,
     ⟨some 71, .move, [.t 3], none⟩,
     ⟨some 72, .bin .lt, [.t 70, .t 71], none⟩] [1, 3, 5, 6, 72] [1])
   (.cond (.t 72)
    .skip
    (.exit 1)))
  (.seq
   (.block 2
    (.seq
     (.reg [] [⟨some 75, .faddr 3, [.t 1], none⟩,
       ⟨some 76, .load none false, [.t 75], none⟩,
       ⟨some 77, .move, [.t 6], none⟩,
       ⟨some 78, .iaddr 4, [.t 76, .t 77], none⟩,
       ⟨some 79, .load (some 4) false, [.t 78], none⟩,
       ⟨some 80, .call [] false, [.f 37, .t 79], none⟩,
       ⟨some 7, .move, [.t 80], none⟩] [1, 3, 5, 6, 7] [1])
     (.seq
      (.seq
       (.reg [] [⟨some 81, .move, [.t 7], none⟩,
         ⟨some 82, .bin .eq, [.t 81, .k (.i 0)], none⟩] [1, 3, 5, 6, 7, 82] [1])
       (.cond (.t 82)
        (.seq
         (.reg [] [⟨some 2, .move, [.k (.i 0)], none⟩] [2] [])
         .ret)
        .skip))
      (.reg [] [⟨some 83, .move, [.t 5], none⟩,
        ⟨some 84, .move, [.t 7], none⟩,
        ⟨some 85, .bin .add, [.t 83, .t 84], none⟩,
        ⟨some 86, .min2, [.k (.i 1000), .t 85], none⟩,
        ⟨some 5, .move, [.t 86], none⟩] [1, 3, 5, 6] [1]))))
   (.reg [] [⟨some 73, .move, [.t 6], none⟩,
     ⟨some 74, .bin .add, [.t 73, .k (.i 1)], none⟩,
     ⟨some 6, .move, [.t 74], none⟩] [1, 3, 5, 6] [1])))
def c37l0 : AC := b37l0
theorem r37l0 (call lp s) : run call lp c37l0 s = run call lp b37l0 s := rfl
/-- spec.l13Nodes -/
def c37 : AC :=
 (.seq
  (.reg [] [⟨some 1, .box, [.t 0], none⟩,
    ⟨some 2, .move, [.k (.i 0)], none⟩] [1] [1])
  (.seq
   (.reg [] [⟨some 3, .move, [.k (.i 1)], none⟩] [1, 3] [1])
   (.seq
    (.reg [] [⟨some 8, .faddr 1, [.t 1], none⟩,
      ⟨some 9, .load none false, [.t 8], none⟩,
      ⟨some 10, .call [] false, [.f 56, .t 9], none⟩,
      ⟨some 11, .move, [.t 10], none⟩,
      ⟨some 12, .faddr 2, [.t 1], some (11, true)⟩,
      ⟨some 13, .load none false, [.t 12], some (11, true)⟩,
      ⟨some 14, .call [] false, [.f 56, .t 13], some (11, true)⟩,
      ⟨some 15, .pick, [.t 11, .t 14, .k (.b false)], none⟩,
      ⟨some 4, .move, [.t 15], none⟩] [1, 3, 4] [1])
    (.seq
     (.seq
      (.reg [] [⟨some 16, .faddr 0, [.t 1], none⟩,
        ⟨some 17, .load none false, [.t 16], none⟩] [1, 3, 4, 17] [1])
      (.block 0
       (.seq
        (.reg [] [⟨some 19, .bin .eq, [.t 17, .k (.i 0)], none⟩,
          ⟨some 18, .move, [.t 19], none⟩] [1, 3, 4, 17, 18] [1])
        (.cond (.t 18)
         (.seq
          (.reg [] [⟨some 3, .move, [.k (.i 0)], none⟩] [1, 3] [1])
          (.reg [] [⟨some 20, .faddr 1, [.t 1], none⟩,
            ⟨some 21, .load none false, [.t 20], none⟩,
            ⟨some 22, .bin .eq, [.t 21, .k (.i 0)], none⟩,
            ⟨some 23, .move, [.t 22], none⟩,
            ⟨some 24, .faddr 2, [.t 1], some (23, true)⟩,
            ⟨some 25, .load none false, [.t 24], some (23, true)⟩,
            ⟨some 26, .bin .eq, [.t 25, .k (.i 0)], some (23, true)⟩,
            ⟨some 27, .pick, [.t 23, .t 26, .k (.b false)], none⟩,
            ⟨some 4, .move, [.t 27], none⟩] [1, 3, 4] [1]))
         (.seq
          (.reg [] [⟨some 29, .bin .eq, [.t 17, .k (.i 3)], none⟩,
            ⟨some 28, .move, [.t 29], none⟩] [1, 3, 4, 17, 28] [1])
          (.cond (.t 28)
           (.reg [] [⟨some 30, .faddr 1, [.t 1], none⟩,
             ⟨some 31, .load none false, [.t 30], none⟩,
             ⟨some 32, .bin .eq, [.t 31, .k (.i 0)], none⟩,
             ⟨some 33, .move, [.t 32], none⟩,
             ⟨some 34, .faddr 2, [.t 1], some (33, true)⟩,
             ⟨some 35, .load none false, [.t 34], some (33, true)⟩,
             ⟨some 36, .bin .eq, [.t 35, .k (.i 0)], some (33, true)⟩,
             ⟨some 37, .pick, [.t 33, .t 36, .k (.b false)], none⟩,
             ⟨some 4, .move, [.t 37], none⟩] [1, 3, 4] [1])
           (.seq
            (.seq
             (.reg [] [⟨some 39, .bin .eq, [.t 17, .k (.i 4)], none⟩,
               ⟨some 38, .move, [.t 39], none⟩] [1, 3, 4, 17, 38] [1])
             (.cond (.t 38)
              .skip
              (.reg [] [⟨some 40, .bin .eq, [.t 17, .k (.i 5)], none⟩,
                ⟨some 38, .move, [.t 40], none⟩] [1, 3, 4, 17, 38] [1])))
            (.cond (.t 38)
             (.seq
              (.reg [] [⟨some 3, .move, [.k (.i 2)], none⟩] [1, 3] [1])
              (.reg [] [⟨some 41, .faddr 1, [.t 1], none⟩,
                ⟨some 42, .load none false, [.t 41], none⟩,
                ⟨some 43, .bin .eq, [.t 42, .k (.i 0)], none⟩,
                ⟨some 44, .move, [.t 43], none⟩,
                ⟨some 45, .faddr 2, [.t 1], some (44, true)⟩,
                ⟨some 46, .load none false, [.t 45], some (44, true)⟩,
                ⟨some 47, .bin .eq, [.t 46, .k (.i 0)], some (44, true)⟩,
                ⟨some 48, .pick, [.t 44, .t 47, .k (.b false)], none⟩,
                ⟨some 4, .move, [.t 48], none⟩] [1, 3, 4] [1]))
             (.seq
              (.reg [] [⟨some 50, .bin .eq, [.t 17, .k (.i 6)], none⟩,
                ⟨some 49, .move, [.t 50], none⟩] [1, 3, 4, 17, 49] [1])
              (.cond (.t 49)
               (.reg [] [⟨some 51, .move, [.t 4], none⟩,
                 ⟨some 52, .move, [.t 51], none⟩,
                 ⟨some 53, .faddr 2, [.t 1], some (52, true)⟩,
                 ⟨some 54, .load none false, [.t 53], some (52, true)⟩,
                 ⟨some 55, .bin .lt, [.t 54, .k (.i 3)], some (52, true)⟩,
                 ⟨some 56, .pick, [.t 52, .t 55, .k (.b false)], none⟩,
                 ⟨some 4, .move, [.t 56], none⟩] [1, 3, 4] [1])
               (.seq
                (.seq
                 (.reg [] [⟨some 58, .bin .eq, [.t 17, .k (.i 1)], none⟩,
                   ⟨some 57, .move, [.t 58], none⟩] [1, 3, 4, 17, 57] [1])
                 (.cond (.t 57)
                  .skip
                  (.seq
                   (.reg [] [⟨some 59, .bin .eq, [.t 17, .k (.i 2)], none⟩,
                     ⟨some 57, .move, [.t 59], none⟩] [1, 3, 4, 17, 57] [1])
                   (.cond (.t 57)
                    .skip
                    (.reg [] [⟨some 60, .bin .eq, [.t 17, .k (.i 7)], none⟩,
                      ⟨some 57, .move, [.t 60], none⟩] [1, 3, 4, 57] [1])))))
                (.cond (.t 57)
                 .skip
                 (.seq
                  (.reg [] [⟨some 2, .move, [.k (.i 0)], none⟩] [2] [])
                  .ret)))))))))))))
     (.seq
      (.seq
       (.reg [] [⟨some 61, .move, [.t 4], none⟩,
         ⟨some 62, .not, [.t 61], none⟩,
         ⟨some 63, .move, [.t 62], none⟩,
         ⟨some 64, .faddr 3, [.t 1], some (63, false)⟩,
         ⟨some 65, .load none false, [.t 64], some (63, false)⟩,
         ⟨some 66, .len, [.t 65], some (63, false)⟩,
         ⟨some 67, .move, [.t 3], some (63, false)⟩,
         ⟨some 68, .bin .ne, [.t 66, .t 67], some (63, false)⟩,
         ⟨some 69, .pick, [.t 63, .k (.b true), .t 68], none⟩] [1, 3, 69] [1])
       (.cond (.t 69)
        (.seq
         (.reg [] [⟨some 2, .move, [.k (.i 0)], none⟩] [2] [])
         .ret)
        .skip))
      (.seq
       (.reg [] [⟨some 5, .move, [.k (.i 1)], none⟩] [1, 3, 5] [1])
       (.seq
        (.seq
         (.reg [] [⟨some 6, .move, [.k (.i 0)], none⟩] [1, 3, 5, 6] [1])
         (.block 1
          (.loop [1, 3, 5, 6] [1] c37l0)))
        (.seq
         (.reg [] [⟨some 87, .move, [.t 5], none⟩,
           ⟨some 2, .move, [.t 87], none⟩] [2] [])
         .ret))))))))
def a37 : AF := ⟨c37, [.tmp 2]⟩
/-- spec.PiOk -/
def c10 : AC :=
 (.seq
  (.reg [] [⟨some 1, .box, [.t 0], none⟩,
    ⟨some 2, .move, [.k (.b false)], none⟩] [1] [1])
  (.seq
   (.reg [] [⟨some 3, .load (some 4) false, [.t 1], none⟩,
     ⟨some 4, .call [] false, [.f 37, .t 3], none⟩,
     ⟨some 5, .call [] false, [.f 36, .t 4, .k (.i 1), .k (.i 14)], none⟩,
     ⟨some 2, .move, [.t 5], none⟩] [2] [])
   .ret))
def a10 : AF := ⟨c10, [.tmp 2]⟩
def b39l0 : AC :=
 (.seq
  (.reg [] [⟨some 12, .bin .lt, [.t 11, .t 10], none⟩] [1, 5, 9, 10, 11, 12] [])
  (.seq
   (.cond (.t 12)
    .skip
    (.exit 0))
   (.seq
    (.block 1
     (.seq
      (.reg [] [⟨some 13, .iaddr 4, [.t 9, .t 11], none⟩,
        ⟨some 14, .load (some 4) false, [.t 13], none⟩,
        ⟨some 7, .alloc [.i 0, .i 0, .i 0, .nils], [], none⟩,
        ⟨none, .store 4 true, [.t 7, .t 14], none⟩] [1, 5, 7, 9, 10, 11] [7])
      (.seq
       (.seq
        (.reg [] [⟨some 15, .move, [.t 5], none⟩,
          ⟨some 16, .move, [.t 1], none⟩,
          ⟨some 17, .bin .gt, [.t 15, .t 16], none⟩] [1, 5, 7, 9, 10, 11, 17] [7])
        (.cond (.t 17)
         (.seq
          (.reg [] [⟨some 18, .move, [.t 5], none⟩,
            ⟨some 4, .move, [.t 18], none⟩] [4] [])
          .ret)
         .skip))
       (.reg [] [⟨some 19, .move, [.t 5], none⟩,
         ⟨some 20, .load (some 4) false, [.t 7], none⟩,
         ⟨some 21, .move, [.t 1], none⟩,
         ⟨some 22, .move, [.t 5], none⟩,
         ⟨some 23, .bin .sub, [.t 21, .t 22], none⟩,
         ⟨some 24, .call [] false, [.f 39, .t 20, .t 23], none⟩,
         ⟨some 25, .bin .add, [.t 19, .t 24], none⟩,
         ⟨some 5, .move, [.t 25], none⟩] [1, 5, 9, 10, 11] []))))
    (.reg [] [⟨some 26, .bin .add, [.t 11, .k (.i 1)], none⟩,
      ⟨some 11, .move, [.t 26], none⟩] [1, 5, 9, 10, 11] []))))
def c39l0 : AC := b39l0
theorem r39l0 (call lp s) : run call lp c39l0 s = run call lp b39l0 s := rfl
/-- impl.piNodes -/
def c39 : AC :=
 (.seq
  (.reg [] [⟨some 2, .box, [.t 0], none⟩,
    ⟨some 4, .move, [.k (.i 0)], none⟩] [1, 2] [2])
  (.seq
   (.reg [] [⟨some 5, .move, [.k (.i 1)], none⟩] [1, 2, 5] [2])
   (.seq
    (.seq
     (.reg [] [⟨some 8, .faddr 3, [.t 2], none⟩,
       ⟨some 9, .load none false, [.t 8], none⟩,
       ⟨some 10, .len, [.t 9], none⟩,
       ⟨some 11, .move, [.k (.i 0)], none⟩] [1, 5, 9, 10, 11] [])
     (.block 0
      (.loop [1, 5, 9, 10, 11] [] c39l0)))
    (.seq
     (.reg [] [⟨some 27, .move, [.t 5], none⟩,
       ⟨some 4, .move, [.t 27], none⟩] [4] [])
     .ret))))
def a39 : AF := ⟨c39, [.tmp 4]⟩
/-- impl.piName -/
def c58 : AC :=
 (.seq
  (.reg [] [⟨some 2, .move, [.k (.b false)], none⟩] [0] [])
  (.seq
   (.reg [] [⟨some 3, .move, [.t 0], none⟩,
     ⟨some 4, .bin .ge, [.t 3, .k (.i 0)], none⟩,
     ⟨some 5, .move, [.t 4], none⟩,
     ⟨some 6, .move, [.t 0], some (5, true)⟩,
     ⟨some 7, .bin .lt, [.t 6, .k (.i 30)], some (5, true)⟩,
     ⟨some 8, .pick, [.t 5, .t 7, .k (.b false)], none⟩,
     ⟨some 2, .move, [.t 8], none⟩] [2] [])
   .ret))
def a58 : AF := ⟨c58, [.tmp 2]⟩
def b73l0 : AC :=
 (.seq
  (.reg [] [⟨some 9, .bin .lt, [.t 8, .t 7], none⟩] [0, 1, 7, 8, 9] [])
  (.seq
   (.cond (.t 9)
    .skip
    (.exit 0))
   (.seq
    (.block 1
     (.seq
      (.reg [] [⟨some 10, .move, [.t 8], none⟩,
        ⟨some 5, .move, [.t 10], none⟩] [0, 1, 5, 7, 8] [])
      (.seq
       (.reg [] [⟨some 11, .move, [.t 1], none⟩,
         ⟨some 12, .move, [.t 0], none⟩,
         ⟨some 13, .move, [.t 5], none⟩,
         ⟨some 14, .iaddr 4, [.t 12, .t 13], none⟩,
         ⟨some 15, .load (some 4) false, [.t 14], none⟩,
         ⟨some 16, .call [] false, [.t 11, .t 15], none⟩] [0, 1, 5, 7, 8, 16] [])
       (.cond (.t 16)
        (.seq
         (.reg [] [⟨some 17, .move, [.t 5], none⟩,
           ⟨some 4, .move, [.t 17], none⟩] [4] [])
         .ret)
        .skip))))
    (.reg [] [⟨some 18, .bin .add, [.t 8, .k (.i 1)], none⟩,
      ⟨some 8, .move, [.t 18], none⟩] [0, 1, 7, 8] []))))
def c73l0 : AC := b73l0
theorem r73l0 (call lp s) : run call lp c73l0 s = run call lp b73l0 s := rfl
/-- impl.Pi] -/
def c73 : AC :=
 (.seq
  (.reg [] [⟨some 4, .move, [.k (.i 0)], none⟩] [0, 1] [])
  (.seq
   (.seq
    (.reg [] [⟨some 6, .move, [.t 0], none⟩,
      ⟨some 7, .len, [.t 6], none⟩,
      ⟨some 8, .move, [.k (.i 0)], none⟩] [0, 1, 7, 8] [])
    (.block 0
     (.loop [0, 1, 7, 8] [] c73l0)))
   (.seq
    (.reg [] [⟨some 4, .move, [.k (.i (-1))], none⟩] [4] [])
    .ret)))
def a73 : AF := ⟨c73, [.tmp 4]⟩
/-- impl.Pi] -/
def c53 : AC :=
 (.seq
  (.reg [] [⟨some 4, .move, [.k (.b false)], none⟩] [0, 1] [])
  (.seq
   (.reg [] [⟨some 5, .move, [.t 0], none⟩,
     ⟨some 6, .move, [.t 1], none⟩,
     ⟨some 7, .call [] false, [.f 73, .t 5, .t 6], none⟩,
     ⟨some 8, .bin .ge, [.t 7, .k (.i 0)], none⟩,
     ⟨some 4, .move, [.t 8], none⟩] [4] [])
   .ret))
def a53 : AF := ⟨c53, [.tmp 4]⟩
/-- impl.piShape$1 -/
def c61 : AC :=
 (.seq
  (.reg [] [⟨some 1, .box, [.t 0], none⟩,
    ⟨some 2, .move, [.k (.b false)], none⟩] [1] [1])
  (.seq
   (.reg [] [⟨some 3, .load (some 4) false, [.t 1], none⟩,
     ⟨some 4, .call [] false, [.f 40, .t 3], none⟩,
     ⟨some 5, .not, [.t 4], none⟩,
     ⟨some 2, .move, [.t 5], none⟩] [2] [])
   .ret))
def a61 : AF := ⟨c61, [.tmp 2]⟩
/-- impl.piShape -/
def c40 : AC :=
 (.seq
  (.reg [] [⟨some 1, .box, [.t 0], none⟩,
    ⟨some 2, .move, [.k (.b false)], none⟩] [1] [1])
  (.seq
   (.reg [] [⟨some 3, .move, [.k (.i 1)], none⟩] [1, 3] [1])
   (.seq
    (.seq
     (.reg [] [⟨some 4, .faddr 0, [.t 1], none⟩,
       ⟨some 5, .load none false, [.t 4], none⟩] [1, 3, 5] [1])
     (.block 0
      (.seq
       (.reg [] [⟨some 7, .bin .eq, [.t 5, .k (.i 0)], none⟩,
         ⟨some 6, .move, [.t 7], none⟩] [1, 3, 5, 6] [1])
       (.cond (.t 6)
        (.reg [] [⟨some 3, .move, [.k (.i 0)], none⟩] [1, 3] [1])
        (.seq
         (.seq
          (.reg [] [⟨some 9, .bin .eq, [.t 5, .k (.i 4)], none⟩,
            ⟨some 8, .move, [.t 9], none⟩] [1, 3, 5, 8] [1])
          (.cond (.t 8)
           .skip
           (.reg [] [⟨some 10, .bin .eq, [.t 5, .k (.i 5)], none⟩,
             ⟨some 8, .move, [.t 10], none⟩] [1, 3, 8] [1])))
         (.cond (.t 8)
          (.reg [] [⟨some 3, .move, [.k (.i 2)], none⟩] [1, 3] [1])
          .skip))))))
    (.seq
     (.seq
      (.reg [] [⟨some 11, .faddr 0, [.t 1], none⟩,
        ⟨some 12, .load none false, [.t 11], none⟩] [1, 3, 12] [1])
      (.block 1
       (.seq
        (.seq
         (.reg [] [⟨some 14, .bin .eq, [.t 12, .k (.i 0)], none⟩,
           ⟨some 13, .move, [.t 14], none⟩] [1, 3, 12, 13] [1])
         (.cond (.t 13)
          .skip
          (.seq
           (.reg [] [⟨some 15, .bin .eq, [.t 12, .k (.i 3)], none⟩,
             ⟨some 13, .move, [.t 15], none⟩] [1, 3, 12, 13] [1])
           (.cond (.t 13)
            .skip
            (.seq
             (.reg [] [⟨some 16, .bin .eq, [.t 12, .k (.i 4)], none⟩,
               ⟨some 13, .move, [.t 16], none⟩] [1, 3, 12, 13] [1])
             (.cond (.t 13)
              .skip
              (.reg [] [⟨some 17, .bin .eq, [.t 12, .k (.i 5)], none⟩,
                ⟨some 13, .move, [.t 17], none⟩] [1, 3, 12, 13] [1])))))))
        (.cond (.t 13)
         (.seq
          (.reg [] [⟨some 18, .faddr 1, [.t 1], none⟩,
            ⟨some 19, .load none false, [.t 18], none⟩,
            ⟨some 20, .bin .ne, [.t 19, .k (.i 0)], none⟩,
            ⟨some 21, .move, [.t 20], none⟩,
            ⟨some 22, .faddr 2, [.t 1], some (21, false)⟩,
            ⟨some 23, .load none false, [.t 22], some (21, false)⟩,
            ⟨some 24, .bin .ne, [.t 23, .k (.i 0)], some (21, false)⟩,
            ⟨some 25, .pick, [.t 21, .k (.b true), .t 24], none⟩] [1, 3, 25] [1])
          (.cond (.t 25)
           (.seq
            (.reg [] [⟨some 2, .move, [.k (.b false)], none⟩] [2] [])
            .ret)
           .skip))
         (.seq
          (.seq
           (.reg [] [⟨some 27, .bin .eq, [.t 12, .k (.i 1)], none⟩,
             ⟨some 26, .move, [.t 27], none⟩] [1, 3, 12, 26] [1])
           (.cond (.t 26)
            .skip
            (.seq
             (.reg [] [⟨some 28, .bin .eq, [.t 12, .k (.i 2)], none⟩,
               ⟨some 26, .move, [.t 28], none⟩] [1, 3, 12, 26] [1])
             (.cond (.t 26)
              .skip
              (.reg [] [⟨some 29, .bin .eq, [.t 12, .k (.i 7)], none⟩,
                ⟨some 26, .move, [.t 29], none⟩] [1, 3, 12, 26] [1])))))
          (.cond (.t 26)
           (.seq
            (.reg [] [⟨some 30, .faddr 1, [.t 1], none⟩,
              ⟨some 31, .load none false, [.t 30], none⟩,
              ⟨some 32, .call [] false, [.f 58, .t 31], none⟩,
              ⟨some 33, .not, [.t 32], none⟩,
              ⟨some 34, .move, [.t 33], none⟩,
              ⟨some 35, .faddr 2, [.t 1], some (34, false)⟩,
              ⟨some 36, .load none false, [.t 35], some (34, false)⟩,
              ⟨some 37, .call [] false, [.f 58, .t 36], some (34, false)⟩,
              ⟨some 38, .not, [.t 37], some (34, false)⟩,
              ⟨some 39, .pick, [.t 34, .k (.b true), .t 38], none⟩] [1, 3, 39] [1])
            (.cond (.t 39)
             (.seq
              (.reg [] [⟨some 2, .move, [.k (.b false)], none⟩] [2] [])
              .ret)
             .skip))
           (.seq
            (.reg [] [⟨some 41, .bin .eq, [.t 12, .k (.i 6)], none⟩,
              ⟨some 40, .move, [.t 41], none⟩] [1, 3, 40] [1])
            (.cond (.t 40)
             (.seq
              (.reg [] [⟨some 42, .faddr 1, [.t 1], none⟩,
                ⟨some 43, .load none false, [.t 42], none⟩,
                ⟨some 44, .call [] false, [.f 58, .t 43], none⟩,
                ⟨some 45, .not, [.t 44], none⟩,
                ⟨some 46, .move, [.t 45], none⟩,
                ⟨some 47, .faddr 2, [.t 1], some (46, false)⟩,
                ⟨some 48, .load none false, [.t 47], some (46, false)⟩,
                ⟨some 49, .bin .lt, [.t 48, .k (.i 0)], some (46, false)⟩,
                ⟨some 50, .pick, [.t 46, .k (.b true), .t 49], none⟩,
                ⟨some 51, .move, [.t 50], none⟩,
                ⟨some 52, .faddr 2, [.t 1], some (51, false)⟩,
                ⟨some 53, .load none false, [.t 52], some (51, false)⟩,
                ⟨some 54, .bin .ge, [.t 53, .k (.i 3)], some (51, false)⟩,
                ⟨some 55, .pick, [.t 51, .k (.b true), .t 54], none⟩] [1, 3, 55] [1])
              (.cond (.t 55)
               (.seq
                (.reg [] [⟨some 2, .move, [.k (.b false)], none⟩] [2] [])
                .ret)
               .skip))
             (.seq
              (.reg [] [⟨some 2, .move, [.k (.b false)], none⟩] [2] [])
              .ret)))))))))
     (.seq
      (.reg [] [⟨some 56, .faddr 3, [.t 1], none⟩,
        ⟨some 57, .load none false, [.t 56], none⟩,
        ⟨some 58, .len, [.t 57], none⟩,
        ⟨some 59, .move, [.t 3], none⟩,
        ⟨some 60, .bin .eq, [.t 58, .t 59], none⟩,
        ⟨some 61, .move, [.t 60], none⟩,
        ⟨some 62, .faddr 3, [.t 1], some (61, true)⟩,
        ⟨some 63, .load none false, [.t 62], some (61, true)⟩,
        ⟨some 64, .call [] false, [.f 53, .t 63, .f 61], some (61, true)⟩,
        ⟨some 65, .not, [.t 64], some (61, true)⟩,
        ⟨some 66, .pick, [.t 61, .t 65, .k (.b false)], none⟩,
        ⟨some 2, .move, [.t 66], none⟩] [2] [])
      .ret)))))
def a40 : AF := ⟨c40, [.tmp 2]⟩
/-- impl.PiOk -/
def c12 : AC :=
 (.seq
  (.reg [] [⟨some 1, .box, [.t 0], none⟩,
    ⟨some 2, .move, [.k (.b false)], none⟩] [1] [1])
  (.seq
   (.reg [] [⟨some 3, .load (some 4) false, [.t 1], none⟩,
     ⟨some 4, .call [] false, [.f 39, .t 3, .k (.i 14)], none⟩,
     ⟨some 5, .bin .le, [.t 4, .k (.i 14)], none⟩,
     ⟨some 6, .move, [.t 5], none⟩,
     ⟨some 7, .load (some 4) false, [.t 1], some (6, true)⟩,
     ⟨some 8, .call [] false, [.f 40, .t 7], some (6, true)⟩,
     ⟨some 9, .pick, [.t 6, .t 8, .k (.b false)], none⟩,
     ⟨some 2, .move, [.t 9], none⟩] [2] [])
   .ret))
def a12 : AF := ⟨c12, [.tmp 2]⟩
def b41l0 : AC :=
 (.seq
  (.seq
   (.reg [] [⟨some 11, .move, [.t 5], none⟩,
     ⟨some 12, .move, [.t 0], none⟩,
     ⟨some 13, .len, [.t 12], none⟩,
     ⟨some 14, .bin .lt, [.t 11, .t 13], none⟩] [0, 1, 5, 14] [])
   (.cond (.t 14)
    .skip
    (.exit 0)))
  (.seq
   (.block 1
    (.seq
     (.reg [0, 1, 2, 3, 4, 5, 6, 7, 8, 9] [⟨some 17, .move, [.t 0], none⟩,
       ⟨some 18, .move, [.t 5], none⟩,
       ⟨some 19, .iaddr 4, [.t 17, .t 18], none⟩,
       ⟨some 20, .load (some 4) false, [.t 19], none⟩,
       ⟨some 21, .move, [.t 1], none⟩,
       ⟨some 22, .move, [.t 5], none⟩,
       ⟨some 23, .iaddr 4, [.t 21, .t 22], none⟩,
       ⟨some 24, .load (some 4) false, [.t 23], none⟩,
       ⟨some 25, .call [] false, [.f 13, .t 20, .t 24], none⟩,
       ⟨some 26, .not, [.t 25], none⟩] [0, 1, 5, 26] [])
     (.cond (.t 26)
      (.seq
       (.reg [] [⟨some 4, .move, [.k (.b false)], none⟩] [4] [])
       .ret)
      .skip)))
   (.reg [] [⟨some 15, .move, [.t 5], none⟩,
     ⟨some 16, .bin .add, [.t 15, .k (.i 1)], none⟩,
     ⟨some 5, .move, [.t 16], none⟩] [0, 1, 5] [])))
def c41l0 : AC := b41l0
theorem r41l0 (call lp s) : run call lp c41l0 s = run call lp b41l0 s := rfl
/-- laws.eqPiS -/
def c41 : AC :=
 (.seq
  (.reg [] [⟨some 4, .move, [.k (.b false)], none⟩] [0, 1] [])
  (.seq
   (.seq
    (.reg [] [⟨some 6, .move, [.t 0], none⟩,
      ⟨some 7, .len, [.t 6], none⟩,
      ⟨some 8, .move, [.t 1], none⟩,
      ⟨some 9, .len, [.t 8], none⟩,
      ⟨some 10, .bin .ne, [.t 7, .t 9], none⟩] [0, 1, 10] [])
    (.cond (.t 10)
     (.seq
      (.reg [] [⟨some 4, .move, [.k (.b false)], none⟩] [4] [])
      .ret)
     .skip))
   (.seq
    (.seq
     (.reg [] [⟨some 5, .move, [.k (.i 0)], none⟩] [0, 1, 5] [])
     (.block 0
      (.loop [0, 1, 5] [] c41l0)))
    (.seq
     (.reg [] [⟨some 4, .move, [.k (.b true)], none⟩] [4] [])
     .ret))))
def a41 : AF := ⟨c41, [.tmp 4]⟩
/-- laws.eqPi -/
def c13 : AC :=
 (.seq
  (.reg [] [⟨some 2, .box, [.t 0], none⟩,
    ⟨some 3, .box, [.t 1], none⟩,
    ⟨some 4, .move, [.k (.b false)], none⟩] [2, 3] [2, 3])
  (.seq
   (.seq
    (.reg [] [⟨some 5, .faddr 0, [.t 2], none⟩,
      ⟨some 6, .load none false, [.t 5], none⟩,
      ⟨some 7, .faddr 0, [.t 3], none⟩,
      ⟨some 8, .load none false, [.t 7], none⟩,
      ⟨some 9, .bin .ne, [.t 6, .t 8], none⟩] [2, 3, 9] [2, 3])
    (.cond (.t 9)
     (.seq
      (.reg [] [⟨some 4, .move, [.k (.b false)], none⟩] [4] [])
      .ret)
     .skip))
   (.seq
    (.seq
     (.reg [] [⟨some 10, .faddr 1, [.t 2], none⟩,
       ⟨some 11, .load none false, [.t 10], none⟩,
       ⟨some 12, .faddr 1, [.t 3], none⟩,
       ⟨some 13, .load none false, [.t 12], none⟩,
       ⟨some 14, .bin .ne, [.t 11, .t 13], none⟩] [2, 3, 14] [2, 3])
     (.cond (.t 14)
      (.seq
       (.reg [] [⟨some 4, .move, [.k (.b false)], none⟩] [4] [])
       .ret)
      .skip))
    (.seq
     (.seq
      (.reg [] [⟨some 15, .faddr 2, [.t 2], none⟩,
        ⟨some 16, .load none false, [.t 15], none⟩,
        ⟨some 17, .faddr 2, [.t 3], none⟩,
        ⟨some 18, .load none false, [.t 17], none⟩,
        ⟨some 19, .bin .ne, [.t 16, .t 18], none⟩] [2, 3, 19] [2, 3])
      (.cond (.t 19)
       (.seq
        (.reg [] [⟨some 4, .move, [.k (.b false)], none⟩] [4] [])
        .ret)
       .skip))
     (.seq
      (.seq
       (.reg [] [⟨some 20, .faddr 3, [.t 2], none⟩,
         ⟨some 21, .load none false, [.t 20], none⟩,
         ⟨some 22, .faddr 3, [.t 3], none⟩,
         ⟨some 23, .load none false, [.t 22], none⟩,
         ⟨some 24, .call [] false, [.f 41, .t 21, .t 23], none⟩,
         ⟨some 25, .not, [.t 24], none⟩] [25] [])
       (.cond (.t 25)
        (.seq
         (.reg [] [⟨some 4, .move, [.k (.b false)], none⟩] [4] [])
         .ret)
        .skip))
      (.seq
       (.reg [] [⟨some 4, .move, [.k (.b true)], none⟩] [4] [])
       .ret))))))
def a13 : AF := ⟨c13, [.tmp 4]⟩
/-- laws.FnExactPiOk -/
def c3 : AC :=
 (.seq
  (.reg [] [⟨some 1, .box, [.t 0], none⟩,
    ⟨some 2, .move, [.k (.b false)], none⟩] [1] [1])
  (.seq
   (.reg [] [⟨some 3, .move, [.k (.i 1048576)], none⟩] [1, 3] [1])
   (.seq
    (.reg [] [⟨some 7, .load (some 4) false, [.t 1], none⟩,
      ⟨some 8, .move, [.t 3], none⟩,
      ⟨some 9, .call [] false, [.f 9, .t 7, .t 8], none⟩,
      ⟨some 3, .move, [.t 9], none⟩] [1, 3] [1])
    (.seq
     (.seq
      (.reg [] [⟨some 10, .move, [.t 3], none⟩,
        ⟨some 11, .bin .lt, [.t 10, .k (.i 0)], none⟩] [1, 11] [1])
      (.cond (.t 11)
       (.seq
        (.reg [] [⟨some 2, .move, [.k (.b true)], none⟩] [2] [])
        .ret)
       .skip))
     (.seq
      (.reg [] [⟨some 12, .load (some 4) false, [.t 1], none⟩,
        ⟨some 13, .call [] false, [.f 11, .t 12], none⟩,
        ⟨some 14, .call [] false, [.f 10, .t 13], none⟩,
        ⟨some 4, .move, [.t 14], none⟩] [1, 4] [1])
      (.seq
       (.reg [] [⟨some 15, .load (some 4) false, [.t 1], none⟩,
         ⟨some 16, .call [] false, [.f 11, .t 15], none⟩,
         ⟨some 5, .alloc [.i 0, .i 0, .i 0, .nils], [], none⟩,
         ⟨none, .store 4 true, [.t 5, .t 16], none⟩] [1, 4, 5] [1, 5, 16])
       (.seq
        (.reg [] [⟨some 17, .load (some 4) false, [.t 5], none⟩,
          ⟨some 18, .call [] false, [.f 12, .t 17], none⟩,
          ⟨some 6, .move, [.t 18], none⟩] [1, 4, 5, 6] [1, 5, 16])
        (.seq
         (.seq
          (.reg [] [⟨some 19, .move, [.t 6], none⟩,
            ⟨some 20, .move, [.t 4], none⟩,
            ⟨some 21, .bne, [.t 19, .t 20], none⟩] [1, 5, 21] [1, 5, 16])
          (.cond (.t 21)
           (.seq
            (.reg [] [⟨some 2, .move, [.k (.b false)], none⟩] [2] [])
            .ret)
           .skip))
         (.seq
          (.seq
           (.reg [0, 1, 2, 4, 5] [⟨some 22, .load (some 4) false, [.t 5], none⟩,
             ⟨some 23, .load (some 4) false, [.t 1], none⟩,
             ⟨some 24, .call [] false, [.f 11, .t 23], none⟩,
             ⟨none, .chk (.load (some 4) false), [.t 22, .t 5], none⟩,
             ⟨some 25, .call [] false, [.f 13, .t 22, .t 24], none⟩,
             ⟨some 26, .not, [.t 25], none⟩] [26] [])
           (.cond (.t 26)
            (.seq
             (.reg [] [⟨some 2, .move, [.k (.b false)], none⟩] [2] [])
             .ret)
            .skip))
          (.seq
           (.reg [] [⟨some 2, .move, [.k (.b true)], none⟩] [2] [])
           .ret))))))))))
def a3 : AF := ⟨c3, [.tmp 2]⟩
def b15l0 : AC :=
 (.seq
  (.seq
   (.reg [] [⟨some 8, .move, [.t 4], none⟩,
     ⟨some 9, .move, [.t 0], none⟩,
     ⟨some 10, .len, [.t 9], none⟩,
     ⟨some 11, .bin .lt, [.t 8, .t 10], none⟩] [0, 3, 4, 11] [7])
   (.cond (.t 11)
    .skip
    (.exit 0)))
  (.seq
   (.block 1
    (.reg [] [⟨some 14, .move, [.t 3], none⟩,
      ⟨some 15, .move, [.t 4], none⟩,
      ⟨some 16, .move, [.t 0], none⟩,
      ⟨some 17, .move, [.t 4], none⟩,
      ⟨some 18, .iaddr 1, [.t 16, .t 17], none⟩,
      ⟨some 19, .load none false, [.t 18], none⟩,
      ⟨some 20, .iaddr 1, [.t 14, .t 15], none⟩,
      ⟨none, .store 1 true, [.t 20, .t 19], none⟩] [0, 3, 4] [7]))
   (.reg [] [⟨some 12, .move, [.t 4], none⟩,
     ⟨some 13, .bin .add, [.t 12, .k (.i 1)], none⟩,
     ⟨some 4, .move, [.t 13], none⟩] [0, 3, 4] [7])))
def c15l0 : AC := b15l0
theorem r15l0 (call lp s) : run call lp c15l0 s = run call lp b15l0 s := rfl
/-- laws.toIntS -/
def c15 : AC :=
 (.seq
  (.reg [] [⟨some 2, .move, [.k (.nils)], none⟩] [0] [])
  (.seq
   (.reg [] [⟨some 5, .move, [.t 0], none⟩,
     ⟨some 6, .len, [.t 5], none⟩,
     ⟨some 7, .mkslice 1 (.i 0), [.t 6, .t 6], none⟩,
     ⟨some 3, .move, [.t 7], none⟩] [0, 3] [7])
   (.seq
    (.seq
     (.reg [] [⟨some 4, .move, [.k (.i 0)], none⟩] [0, 3, 4] [7])
     (.block 0
      (.loop [0, 3, 4] [7] c15l0)))
    (.seq
     (.reg [] [⟨some 21, .move, [.t 3], none⟩,
       ⟨some 2, .move, [.t 21], none⟩] [2] [7])
     .ret))))
def a15 : AF := ⟨c15, [.tmp 2]⟩
def b42l0 : AC :=
 (.seq
  (.seq
   (.reg [] [⟨some 6, .move, [.t 5], none⟩,
     ⟨some 7, .move, [.t 0], none⟩,
     ⟨some 8, .len, [.t 7], none⟩,
     ⟨some 9, .bin .lt, [.t 6, .t 8], none⟩] [0, 1, 5, 9] [])
   (.cond (.t 9)
    .skip
    (.exit 0)))
  (.seq
   (.block 1
    (.seq
     (.reg [] [⟨some 12, .move, [.t 0], none⟩,
       ⟨some 13, .move, [.t 5], none⟩,
       ⟨some 14, .iaddr 1, [.t 12, .t 13], none⟩,
       ⟨some 15, .load none false, [.t 14], none⟩,
       ⟨some 16, .call [] false, [.f 36, .t 15, .k (.i 0), .k (.i 2)], none⟩,
       ⟨some 17, .not, [.t 16], none⟩] [0, 1, 5, 17] [])
     (.cond (.t 17)
      (.seq
       (.reg [] [⟨some 4, .move, [.k (.b false)], none⟩] [4] [])
       .ret)
      .skip)))
   (.reg [] [⟨some 10, .move, [.t 5], none⟩,
     ⟨some 11, .bin .add, [.t 10, .k (.i 1)], none⟩,
     ⟨some 5, .move, [.t 11], none⟩] [0, 1, 5] [])))
def c42l0 : AC := b42l0
theorem r42l0 (call lp s) : run call lp c42l0 s = run call lp b42l0 s := rfl
/-- spec.l16Numbers -/
def c42 : AC :=
 (.seq
  (.reg [] [⟨some 4, .move, [.k (.b false)], none⟩] [0, 1] [])
  (.seq
   (.seq
    (.reg [] [⟨some 5, .move, [.k (.i 0)], none⟩] [0, 1, 5] [])
    (.block 0
     (.loop [0, 1, 5] [] c42l0)))
   (.seq
    (.reg [] [⟨some 18, .move, [.t 0], none⟩,
      ⟨some 19, .len, [.t 18], none⟩,
      ⟨some 20, .move, [.t 1], none⟩,
      ⟨some 21, .bin .eq, [.t 19, .t 20], none⟩,
      ⟨some 4, .move, [.t 21], none⟩] [4] [])
    .ret)))
def a42 : AF := ⟨c42, [.tmp 4]⟩
def b43l0 : AC :=
 (.seq
  (.seq
   (.reg [] [⟨some 65, .move, [.t 8], none⟩,
     ⟨some 66, .faddr 3, [.t 3], none⟩,
     ⟨some 67, .load none false, [.t 66], none⟩,
     ⟨some 68, .len, [.t 67], none⟩,
     ⟨some 69, .bin .lt, [.t 65, .t 68], none⟩] [2, 3, 7, 8, 69] [3, 9, 11])
   (.cond (.t 69)
    .skip
    (.exit 1)))
  (.seq
   (.block 2
    (.seq
     (.reg [] [⟨some 72, .faddr 3, [.t 3], none⟩,
       ⟨some 73, .load none false, [.t 72], none⟩,
       ⟨some 74, .move, [.t 8], none⟩,
       ⟨some 75, .iaddr 4, [.t 73, .t 74], none⟩,
       ⟨some 76, .load (some 4) false, [.t 75], none⟩,
       ⟨some 77, .move, [.t 7], none⟩,
       ⟨some 78, .move, [.t 2], none⟩,
       ⟨some 79, .call [] false, [.f 43, .t 76, .t 77, .t 78], none⟩,
       ⟨some 80, .not, [.t 79], none⟩] [2, 3, 7, 8, 80] [3, 9, 11])
     (.cond (.t 80)
      (.seq
       (.reg [] [⟨some 6, .move, [.k (.b false)], none⟩] [6] [])
       .ret)
      .skip)))
   (.reg [] [⟨some 70, .move, [.t 8], none⟩,
     ⟨some 71, .bin .add, [.t 70, .k (.i 1)], none⟩,
     ⟨some 8, .move, [.t 71], none⟩] [2, 3, 7, 8] [3, 9, 11])))
def c43l0 : AC := b43l0
theorem r43l0 (call lp s) : run call lp c43l0 s = run call lp b43l0 s := rfl
/-- spec.l16Sorted -/
def c43 : AC :=
 (.seq
  (.reg [] [⟨some 3, .box, [.t 0], none⟩,
    ⟨some 6, .move, [.k (.b false)], none⟩] [1, 2, 3] [3])
  (.seq
   (.reg [] [⟨some 9, .bslice 1 true, [], none⟩,
     ⟨some 10, .move, [.t 1], none⟩,
     ⟨some 11, .append 1 true, [.t 9, .t 10], none⟩,
     ⟨some 7, .move, [.t 11], none⟩] [1, 2, 3, 7] [3, 9, 11])
   (.seq
    (.seq
     (.reg [] [⟨some 12, .faddr 0, [.t 3], none⟩,
       ⟨some 13, .load none false, [.t 12], none⟩] [1, 2, 3, 7, 13] [3, 9, 11])
     (.block 0
      (.seq
       (.reg [] [⟨some 15, .bin .eq, [.t 13, .k (.i 1)], none⟩,
         ⟨some 14, .move, [.t 15], none⟩] [1, 2, 3, 7, 13, 14] [3, 9, 11])
       (.cond (.t 14)
        (.seq
         (.reg [0, 1, 2, 3, 4, 5, 6, 7, 8, 9, 10, 11, 12, 13] [⟨some 16, .move, [.t 1], none⟩,
           ⟨some 17, .faddr 2, [.t 3], none⟩,
           ⟨some 18, .load none false, [.t 17], none⟩,
           ⟨some 19, .iaddr 1, [.t 16, .t 18], none⟩,
           ⟨some 20, .load none false, [.t 19], none⟩,
           ⟨some 21, .move, [.t 2], none⟩,
           ⟨some 22, .move, [.t 1], none⟩,
           ⟨some 23, .faddr 1, [.t 3], none⟩,
           ⟨some 24, .load none false, [.t 23], none⟩,
           ⟨some 25, .iaddr 1, [.t 22, .t 24], none⟩,
           ⟨some 26, .load none false, [.t 25], none⟩,
           ⟨some 27, .iaddr 1, [.t 21, .t 26], none⟩,
           ⟨some 28, .load none false, [.t 27], none⟩,
           ⟨some 29, .bin .ne, [.t 20, .t 28], none⟩] [2, 3, 7, 29] [3, 9, 11])
         (.cond (.t 29)
          (.seq
           (.reg [] [⟨some 6, .move, [.k (.b false)], none⟩] [6] [])
           .ret)
          .skip))
        (.seq
         (.reg [] [⟨some 31, .bin .eq, [.t 13, .k (.i 2)], none⟩,
           ⟨some 30, .move, [.t 31], none⟩] [1, 2, 3, 7, 13, 30] [3, 9, 11])
         (.cond (.t 30)
          (.reg [0, 1, 2, 3, 4, 5, 6, 7, 8, 9, 10, 11, 12] [⟨some 32, .move, [.t 7], none⟩,
            ⟨some 33, .faddr 2, [.t 3], none⟩,
            ⟨some 34, .load none false, [.t 33], none⟩,
            ⟨some 35, .move, [.t 2], none⟩,
            ⟨some 36, .move, [.t 1], none⟩,
            ⟨some 37, .faddr 1, [.t 3], none⟩,
            ⟨some 38, .load none false, [.t 37], none⟩,
            ⟨some 39, .iaddr 1, [.t 36, .t 38], none⟩,
            ⟨some 40, .load none false, [.t 39], none⟩,
            ⟨some 41, .iaddr 1, [.t 35, .t 40], none⟩,
            ⟨some 42, .load none false, [.t 41], none⟩,
            ⟨some 43, .iaddr 1, [.t 32, .t 34], none⟩,
            ⟨none, .store 1 true, [.t 43, .t 42], none⟩] [2, 3, 7] [3, 9, 11])
          (.seq
           (.reg [] [⟨some 45, .bin .eq, [.t 13, .k (.i 6)], none⟩,
             ⟨some 44, .move, [.t 45], none⟩] [1, 2, 3, 7, 13, 44] [3, 9, 11])
           (.cond (.t 44)
            (.reg [] [⟨some 46, .move, [.t 7], none⟩,
              ⟨some 47, .faddr 1, [.t 3], none⟩,
              ⟨some 48, .load none false, [.t 47], none⟩,
              ⟨some 49, .faddr 2, [.t 3], none⟩,
              ⟨some 50, .load none false, [.t 49], none⟩,
              ⟨some 51, .iaddr 1, [.t 46, .t 48], none⟩,
              ⟨none, .store 1 true, [.t 51, .t 50], none⟩] [2, 3, 7] [3, 9, 11])
            (.seq
             (.reg [] [⟨some 53, .bin .eq, [.t 13, .k (.i 7)], none⟩,
               ⟨some 52, .move, [.t 53], none⟩] [1, 2, 3, 7, 52] [3, 9, 11])
             (.cond (.t 52)
              (.seq
               (.reg [0, 1, 2, 3, 4, 5, 6, 7, 8, 9, 10] [⟨some 54, .move, [.t 1], none⟩,
                 ⟨some 55, .faddr 1, [.t 3], none⟩,
                 ⟨some 56, .load none false, [.t 55], none⟩,
                 ⟨some 57, .iaddr 1, [.t 54, .t 56], none⟩,
                 ⟨some 58, .load none false, [.t 57], none⟩,
                 ⟨some 59, .move, [.t 1], none⟩,
                 ⟨some 60, .faddr 2, [.t 3], none⟩,
                 ⟨some 61, .load none false, [.t 60], none⟩,
                 ⟨some 62, .iaddr 1, [.t 59, .t 61], none⟩,
                 ⟨some 63, .load none false, [.t 62], none⟩,
                 ⟨some 64, .bin .ne, [.t 58, .t 63], none⟩] [2, 3, 7, 64] [3, 9, 11])
               (.cond (.t 64)
                (.seq
                 (.reg [] [⟨some 6, .move, [.k (.b false)], none⟩] [6] [])
                 .ret)
                .skip))
              .skip))))))))))
    (.seq
     (.seq
      (.reg [] [⟨some 8, .move, [.k (.i 0)], none⟩] [2, 3, 7, 8] [3, 9, 11])
      (.block 1
       (.loop [2, 3, 7, 8] [3, 9, 11] c43l0)))
     (.seq
      (.reg [] [⟨some 6, .move, [.k (.b true)], none⟩] [6] [])
      .ret)))))
def a43 : AF := ⟨c43, [.tmp 6]⟩
/-- spec.PiSorted -/
def c14 : AC :=
 (.seq
  (.reg [] [⟨some 3, .box, [.t 0], none⟩,
    ⟨some 6, .move, [.k (.b false)], none⟩] [1, 2, 3] [3])
  (.seq
   (.reg [] [⟨some 7, .load (some 4) false, [.t 3], none⟩,
     ⟨some 8, .call [] false, [.f 10, .t 7], none⟩,
     ⟨some 9, .move, [.t 8], none⟩,
     ⟨some 10, .move, [.t 1], some (9, true)⟩,
     ⟨some 11, .call [] false, [.f 42, .t 10, .k (.i 30)], some (9, true)⟩,
     ⟨some 12, .pick, [.t 9, .t 11, .k (.b false)], none⟩,
     ⟨some 13, .move, [.t 12], none⟩,
     ⟨some 14, .move, [.t 2], some (13, true)⟩,
     ⟨some 15, .call [] false, [.f 42, .t 14, .k (.i 3)], some (13, true)⟩,
     ⟨some 16, .pick, [.t 13, .t 15, .k (.b false)], none⟩,
     ⟨some 17, .move, [.t 16], none⟩,
     ⟨some 18, .load (some 4) false, [.t 3], some (17, true)⟩,
     ⟨some 19, .move, [.t 1], some (17, true)⟩,
     ⟨some 20, .move, [.t 2], some (17, true)⟩,
     ⟨some 21, .call [] false, [.f 43, .t 18, .t 19, .t 20], some (17, true)⟩,
     ⟨some 22, .pick, [.t 17, .t 21, .k (.b false)], none⟩,
     ⟨some 6, .move, [.t 22], none⟩] [6] [])
   .ret))
def a14 : AF := ⟨c14, [.tmp 6]⟩
def b77l0 : AC :=
 (.seq
  (.reg [] [⟨some 9, .bin .lt, [.t 8, .t 7], none⟩] [0, 1, 7, 8, 9] [])
  (.seq
   (.cond (.t 9)
    .skip
    (.exit 0))
   (.seq
    (.block 1
     (.seq
      (.reg [] [⟨some 10, .move, [.t 8], none⟩,
        ⟨some 5, .move, [.t 10], none⟩] [0, 1, 5, 7, 8] [])
      (.seq
       (.reg [] [⟨some 11, .move, [.t 1], none⟩,
         ⟨some 12, .move, [.t 0], none⟩,
         ⟨some 13, .move, [.t 5], none⟩,
         ⟨some 14, .iaddr 1, [.t 12, .t 13], none⟩,
         ⟨some 15, .load none false, [.t 14], none⟩,
         ⟨some 16, .call [] false, [.t 11, .t 15], none⟩] [0, 1, 5, 7, 8, 16] [])
       (.cond (.t 16)
        (.seq
         (.reg [] [⟨some 17, .move, [.t 5], none⟩,
           ⟨some 4, .move, [.t 17], none⟩] [4] [])
         .ret)
        .skip))))
    (.reg [] [⟨some 18, .bin .add, [.t 8, .k (.i 1)], none⟩,
      ⟨some 8, .move, [.t 18], none⟩] [0, 1, 7, 8] []))))
def c77l0 : AC := b77l0
theorem r77l0 (call lp s) : run call lp c77l0 s = run call lp b77l0 s := rfl
/-- slices.IndexFunc[[]int,int] -/
def c77 : AC :=
 (.seq
  (.reg [] [⟨some 4, .move, [.k (.i 0)], none⟩] [0, 1] [])
  (.seq
   (.seq
    (.reg [] [⟨some 6, .move, [.t 0], none⟩,
      ⟨some 7, .len, [.t 6], none⟩,
      ⟨some 8, .move, [.k (.i 0)], none⟩] [0, 1, 7, 8] [])
    (.block 0
     (.loop [0, 1, 7, 8] [] c77l0)))
   (.seq
    (.reg [] [⟨some 4, .move, [.k (.i (-1))], none⟩] [4] [])
    .ret)))
def a77 : AF := ⟨c77, [.tmp 4]⟩
/-- slices.ContainsFunc[[]int,int] -/
def c62 : AC :=
 (.seq
  (.reg [] [⟨some 4, .move, [.k (.b false)], none⟩] [0, 1] [])
  (.seq
   (.reg [] [⟨some 5, .move, [.t 0], none⟩,
     ⟨some 6, .move, [.t 1], none⟩,
     ⟨some 7, .call [] false, [.f 77, .t 5, .t 6], none⟩,
     ⟨some 8, .bin .ge, [.t 7, .k (.i 0)], none⟩,
     ⟨some 4, .move, [.t 8], none⟩] [4] [])
   .ret))
def a62 : AF := ⟨c62, [.tmp 4]⟩
/-- impl.sortNumbers$1 -/
def c63 : AC :=
 (.seq
  (.reg [] [⟨some 2, .move, [.k (.b false)], none⟩] [0] [])
  (.seq
   (.reg [] [⟨some 3, .move, [.t 0], none⟩,
     ⟨some 4, .bin .lt, [.t 3, .k (.i 0)], none⟩,
     ⟨some 5, .move, [.t 4], none⟩,
     ⟨some 6, .move, [.t 0], some (5, false)⟩,
     ⟨some 7, .bin .ge, [.t 6, .k (.i 3)], some (5, false)⟩,
     ⟨some 8, .pick, [.t 5, .k (.b true), .t 7], none⟩,
     ⟨some 2, .move, [.t 8], none⟩] [2] [])
   .ret))
def a63 : AF := ⟨c63, [.tmp 2]⟩
/-- impl.sortNumbers -/
def c44 : AC :=
 (.seq
  (.reg [] [⟨some 4, .move, [.k (.b false)], none⟩] [0, 1] [])
  (.seq
   (.reg [] [⟨some 5, .move, [.t 0], none⟩,
     ⟨some 6, .len, [.t 5], none⟩,
     ⟨some 7, .move, [.t 1], none⟩,
     ⟨some 8, .bin .eq, [.t 6, .t 7], none⟩,
     ⟨some 9, .move, [.t 8], none⟩,
     ⟨some 10, .move, [.t 0], some (9, true)⟩,
     ⟨some 11, .call [] false, [.f 62, .t 10, .f 63], some (9, true)⟩,
     ⟨some 12, .not, [.t 11], some (9, true)⟩,
     ⟨some 13, .pick, [.t 9, .t 12, .k (.b false)], none⟩,
     ⟨some 4, .move, [.t 13], none⟩] [4] [])
   .ret))
def a44 : AF := ⟨c44, [.tmp 4]⟩
/-- slices.Clone[[]int,int] -/
def c64 : AC :=
 (.seq
  (.reg [] [⟨some 2, .move, [.k (.nils)], none⟩] [0] [])
  (.seq
   (.seq
    (.reg [] [⟨some 3, .move, [.t 0], none⟩,
      ⟨some 4, .isnil, [.t 3, .k (.nils)], none⟩] [0, 4] [])
    (.cond (.t 4)
     (.seq
      (.reg [] [⟨some 2, .move, [.k (.nils)], none⟩] [2] [5, 7])
      .ret)
     .skip))
   (.seq
    (.reg [] [⟨some 5, .bslice 1 true, [], none⟩,
      ⟨some 6, .move, [.t 0], none⟩,
      ⟨some 7, .append 1 true, [.t 5, .t 6], none⟩,
      ⟨some 2, .move, [.t 7], none⟩] [2] [5, 7])
    .ret)))
def a64 : AF := ⟨c64, [.tmp 2]⟩
/-- impl.sortedIn$1 -/
def c65 : AC :=
 (.seq
  (.reg [] [⟨some 3, .box, [.t 0], none⟩,
    ⟨some 4, .move, [.k (.b false)], none⟩] [1, 2, 3] [3])
  (.seq
   (.reg [] [⟨some 5, .load (some 4) false, [.t 3], none⟩,
     ⟨some 6, .load none false, [.t 1], none⟩,
     ⟨some 7, .load none false, [.t 2], none⟩,
     ⟨some 8, .call [] false, [.f 45, .t 5, .t 6, .t 7], none⟩,
     ⟨some 9, .not, [.t 8], none⟩,
     ⟨some 4, .move, [.t 9], none⟩] [4] [])
   .ret))
def a65 : AF := ⟨c65, [.tmp 4]⟩
/-- impl.sortedIn -/
def c45 : AC :=
 (.seq
  (.reg [] [⟨some 3, .box, [.t 0], none⟩,
    ⟨some 4, .box, [.t 1], none⟩,
    ⟨some 5, .box, [.t 2], none⟩,
    ⟨some 6, .move, [.k (.b false)], none⟩] [3, 4, 5] [3, 4, 5, 50, 59])
  (.seq
   (.seq
    (.reg [] [⟨some 8, .faddr 0, [.t 3], none⟩,
      ⟨some 9, .load none false, [.t 8], none⟩] [3, 4, 5, 9] [3, 4, 5, 50, 59])
    (.block 0
     (.seq
      (.reg [] [⟨some 11, .bin .eq, [.t 9, .k (.i 1)], none⟩,
        ⟨some 10, .move, [.t 11], none⟩] [3, 4, 5, 9, 10] [3, 4, 5, 50, 59])
      (.cond (.t 10)
       (.seq
        (.reg [0, 1, 2, 3, 4, 5, 6, 7, 8, 9, 10, 11, 12, 13] [⟨some 12, .load none false, [.t 4], none⟩,
          ⟨some 13, .faddr 2, [.t 3], none⟩,
          ⟨some 14, .load none false, [.t 13], none⟩,
          ⟨some 15, .iaddr 1, [.t 12, .t 14], none⟩,
          ⟨some 16, .load none false, [.t 15], none⟩,
          ⟨some 17, .load none false, [.t 5], none⟩,
          ⟨some 18, .load none false, [.t 4], none⟩,
          ⟨some 19, .faddr 1, [.t 3], none⟩,
          ⟨some 20, .load none false, [.t 19], none⟩,
          ⟨some 21, .iaddr 1, [.t 18, .t 20], none⟩,
          ⟨some 22, .load none false, [.t 21], none⟩,
          ⟨some 23, .iaddr 1, [.t 17, .t 22], none⟩,
          ⟨some 24, .load none false, [.t 23], none⟩,
          ⟨some 25, .bin .ne, [.t 16, .t 24], none⟩] [3, 4, 5, 25] [3, 4, 5, 50, 59])
        (.cond (.t 25)
         (.seq
          (.reg [] [⟨some 6, .move, [.k (.b false)], none⟩] [6] [])
          .ret)
         .skip))
       (.seq
        (.reg [] [⟨some 27, .bin .eq, [.t 9, .k (.i 7)], none⟩,
          ⟨some 26, .move, [.t 27], none⟩] [3, 4, 5, 9, 26] [3, 4, 5, 50, 59])
        (.cond (.t 26)
         (.seq
          (.reg [0, 1, 2, 3, 4, 5, 6, 7, 8, 9, 10] [⟨some 28, .load none false, [.t 4], none⟩,
            ⟨some 29, .faddr 1, [.t 3], none⟩,
            ⟨some 30, .load none false, [.t 29], none⟩,
            ⟨some 31, .iaddr 1, [.t 28, .t 30], none⟩,
            ⟨some 32, .load none false, [.t 31], none⟩,
            ⟨some 33, .load none false, [.t 4], none⟩,
            ⟨some 34, .faddr 2, [.t 3], none⟩,
            ⟨some 35, .load none false, [.t 34], none⟩,
            ⟨some 36, .iaddr 1, [.t 33, .t 35], none⟩,
            ⟨some 37, .load none false, [.t 36], none⟩,
            ⟨some 38, .bin .ne, [.t 32, .t 37], none⟩] [3, 4, 5, 38] [3, 4, 5, 50, 59])
          (.cond (.t 38)
           (.seq
            (.reg [] [⟨some 6, .move, [.k (.b false)], none⟩] [6] [])
            .ret)
           .skip))
         (.seq
          (.reg [] [⟨some 40, .bin .eq, [.t 9, .k (.i 2)], none⟩,
            ⟨some 39, .move, [.t 40], none⟩] [3, 4, 5, 9, 39] [3, 4, 5, 50, 59])
          (.cond (.t 39)
           (.seq
            (.reg [0, 1, 2, 3, 4, 5, 6, 7, 8] [⟨some 41, .load none false, [.t 5], none⟩,
              ⟨some 42, .load none false, [.t 4], none⟩,
              ⟨some 43, .faddr 1, [.t 3], none⟩,
              ⟨some 44, .load none false, [.t 43], none⟩,
              ⟨some 45, .iaddr 1, [.t 42, .t 44], none⟩,
              ⟨some 46, .load none false, [.t 45], none⟩,
              ⟨some 47, .iaddr 1, [.t 41, .t 46], none⟩,
              ⟨some 48, .load none false, [.t 47], none⟩,
              ⟨some 7, .move, [.t 48], none⟩] [3, 4, 5, 7] [3, 4, 5, 50, 59])
            (.seq
             (.reg [] [⟨some 49, .load none false, [.t 4], none⟩,
               ⟨some 50, .call [] false, [.f 64, .t 49], none⟩,
               ⟨none, .store 1 true, [.t 4, .t 50], none⟩] [3, 4, 5, 7] [3, 4, 5, 50, 59])
             (.reg [] [⟨some 51, .load none false, [.t 4], none⟩,
               ⟨some 52, .faddr 2, [.t 3], none⟩,
               ⟨some 53, .load none false, [.t 52], none⟩,
               ⟨some 54, .move, [.t 7], none⟩,
               ⟨some 55, .iaddr 1, [.t 51, .t 53], none⟩,
               ⟨none, .store 1 true, [.t 55, .t 54], none⟩] [3, 4, 5] [3, 4, 5, 50, 59])))
           (.seq
            (.reg [] [⟨some 57, .bin .eq, [.t 9, .k (.i 6)], none⟩,
              ⟨some 56, .move, [.t 57], none⟩] [3, 4, 5, 56] [3, 4, 5, 50, 59])
            (.cond (.t 56)
             (.seq
              (.reg [] [⟨some 58, .load none false, [.t 4], none⟩,
                ⟨some 59, .call [] false, [.f 64, .t 58], none⟩,
                ⟨none, .store 1 true, [.t 4, .t 59], none⟩] [3, 4, 5] [3, 4, 5, 50, 59])
              (.reg [] [⟨some 60, .load none false, [.t 4], none⟩,
                ⟨some 61, .faddr 1, [.t 3], none⟩,
                ⟨some 62, .load none false, [.t 61], none⟩,
                ⟨some 63, .faddr 2, [.t 3], none⟩,
                ⟨some 64, .load none false, [.t 63], none⟩,
                ⟨some 65, .iaddr 1, [.t 60, .t 62], none⟩,
                ⟨none, .store 1 true, [.t 65, .t 64], none⟩] [3, 4, 5] [3, 4, 5, 50, 59]))
             .skip))))))))))
   (.seq
    (.reg [] [⟨some 66, .faddr 3, [.t 3], none⟩,
      ⟨some 67, .load none false, [.t 66], none⟩,
      ⟨some 68, .mkfunc 65, [.t 4, .t 5], none⟩,
      ⟨some 69, .call [] false, [.f 53, .t 67, .t 68], none⟩,
      ⟨some 70, .not, [.t 69], none⟩,
      ⟨some 6, .move, [.t 70], none⟩] [6] [])
    .ret)))
def a45 : AF := ⟨c45, [.tmp 6]⟩
/-- impl.PiSorted -/
def c16 : AC :=
 (.seq
  (.reg [] [⟨some 3, .box, [.t 0], none⟩,
    ⟨some 6, .move, [.k (.b false)], none⟩] [1, 2, 3] [3])
  (.seq
   (.reg [] [⟨some 7, .load (some 4) false, [.t 3], none⟩,
     ⟨some 8, .call [] false, [.f 12, .t 7], none⟩,
     ⟨some 9, .move, [.t 8], none⟩,
     ⟨some 10, .move, [.t 1], some (9, true)⟩,
     ⟨some 11, .call [] false, [.f 44, .t 10, .k (.i 30)], some (9, true)⟩,
     ⟨some 12, .pick, [.t 9, .t 11, .k (.b false)], none⟩,
     ⟨some 13, .move, [.t 12], none⟩,
     ⟨some 14, .move, [.t 2], some (13, true)⟩,
     ⟨some 15, .call [] false, [.f 44, .t 14, .k (.i 3)], some (13, true)⟩,
     ⟨some 16, .pick, [.t 13, .t 15, .k (.b false)], none⟩,
     ⟨some 17, .move, [.t 16], none⟩,
     ⟨some 18, .load (some 4) false, [.t 3], some (17, true)⟩,
     ⟨some 19, .move, [.t 1], some (17, true)⟩,
     ⟨some 20, .move, [.t 2], some (17, true)⟩,
     ⟨some 21, .call [] false, [.f 45, .t 18, .t 19, .t 20], some (17, true)⟩,
     ⟨some 22, .pick, [.t 17, .t 21, .k (.b false)], none⟩,
     ⟨some 6, .move, [.t 22], none⟩] [6] [])
   .ret))
def a16 : AF := ⟨c16, [.tmp 6]⟩
def b17l0 : AC :=
 (.seq
  (.seq
   (.reg [] [⟨some 11, .move, [.t 5], none⟩,
     ⟨some 12, .move, [.t 0], none⟩,
     ⟨some 13, .len, [.t 12], none⟩,
     ⟨some 14, .bin .lt, [.t 11, .t 13], none⟩] [0, 1, 5, 14] [])
   (.cond (.t 14)
    .skip
    (.exit 0)))
  (.seq
   (.block 1
    (.seq
     (.reg [0, 1, 2, 3, 4, 5, 6, 7, 8] [⟨some 17, .move, [.t 0], none⟩,
       ⟨some 18, .move, [.t 5], none⟩,
       ⟨some 19, .iaddr 1, [.t 17, .t 18], none⟩,
       ⟨some 20, .load none false, [.t 19], none⟩,
       ⟨some 21, .move, [.t 1], none⟩,
       ⟨some 22, .move, [.t 5], none⟩,
       ⟨some 23, .iaddr 1, [.t 21, .t 22], none⟩,
       ⟨some 24, .load none false, [.t 23], none⟩,
       ⟨some 25, .bin .ne, [.t 20, .t 24], none⟩] [0, 1, 5, 25] [])
     (.cond (.t 25)
      (.seq
       (.reg [] [⟨some 4, .move, [.k (.b false)], none⟩] [4] [])
       .ret)
      .skip)))
   (.reg [] [⟨some 15, .move, [.t 5], none⟩,
     ⟨some 16, .bin .add, [.t 15, .k (.i 1)], none⟩,
     ⟨some 5, .move, [.t 16], none⟩] [0, 1, 5] [])))
def c17l0 : AC := b17l0
theorem r17l0 (call lp s) : run call lp c17l0 s = run call lp b17l0 s := rfl
/-- laws.eqIntS -/
def c17 : AC :=
 (.seq
  (.reg [] [⟨some 4, .move, [.k (.b false)], none⟩] [0, 1] [])
  (.seq
   (.seq
    (.reg [] [⟨some 6, .move, [.t 0], none⟩,
      ⟨some 7, .len, [.t 6], none⟩,
      ⟨some 8, .move, [.t 1], none⟩,
      ⟨some 9, .len, [.t 8], none⟩,
      ⟨some 10, .bin .ne, [.t 7, .t 9], none⟩] [0, 1, 10] [])
    (.cond (.t 10)
     (.seq
      (.reg [] [⟨some 4, .move, [.k (.b false)], none⟩] [4] [])
      .ret)
     .skip))
   (.seq
    (.seq
     (.reg [] [⟨some 5, .move, [.k (.i 0)], none⟩] [0, 1, 5] [])
     (.block 0
      (.loop [0, 1, 5] [] c17l0)))
    (.seq
     (.reg [] [⟨some 4, .move, [.k (.b true)], none⟩] [4] [])
     .ret))))
def a17 : AF := ⟨c17, [.tmp 4]⟩
/-- laws.FnExactPiSorted -/
def c4 : AC :=
 (.seq
  (.reg [] [⟨some 3, .box, [.t 0], none⟩,
    ⟨some 6, .move, [.k (.b false)], none⟩] [1, 2, 3] [3])
  (.seq
   (.seq
    (.reg [] [⟨some 13, .move, [.t 1], none⟩,
      ⟨some 14, .len, [.t 13], none⟩,
      ⟨some 15, .bin .gt, [.t 14, .k (.i 1048576)], none⟩] [1, 2, 3, 15] [3])
    (.cond (.t 15)
     (.seq
      (.reg [] [⟨some 6, .move, [.k (.b true)], none⟩] [6] [])
      .ret)
     .skip))
   (.seq
    (.seq
     (.reg [] [⟨some 16, .move, [.t 2], none⟩,
       ⟨some 17, .len, [.t 16], none⟩,
       ⟨some 18, .bin .gt, [.t 17, .k (.i 1048576)], none⟩] [1, 2, 3, 18] [3])
     (.cond (.t 18)
      (.seq
       (.reg [] [⟨some 6, .move, [.k (.b true)], none⟩] [6] [])
       .ret)
      .skip))
    (.seq
     (.reg [] [⟨some 7, .move, [.k (.i 1048576)], none⟩] [1, 2, 3, 7] [3])
     (.seq
      (.reg [] [⟨some 19, .load (some 4) false, [.t 3], none⟩,
        ⟨some 20, .move, [.t 7], none⟩,
        ⟨some 21, .call [] false, [.f 9, .t 19, .t 20], none⟩,
        ⟨some 7, .move, [.t 21], none⟩] [1, 2, 3, 7] [3])
      (.seq
       (.seq
        (.reg [] [⟨some 22, .move, [.t 7], none⟩,
          ⟨some 23, .bin .lt, [.t 22, .k (.i 0)], none⟩] [1, 2, 3, 23] [3])
        (.cond (.t 23)
         (.seq
          (.reg [] [⟨some 6, .move, [.k (.b true)], none⟩] [6] [])
          .ret)
         .skip))
       (.seq
        (.reg [] [⟨some 24, .load (some 4) false, [.t 3], none⟩,
          ⟨some 25, .call [] false, [.f 11, .t 24], none⟩,
          ⟨some 26, .move, [.t 1], none⟩,
          ⟨some 27, .call [] false, [.f 15, .t 26], none⟩,
          ⟨some 28, .move, [.t 2], none⟩,
          ⟨some 29, .call [] false, [.f 15, .t 28], none⟩,
          ⟨some 30, .call [] false, [.f 14, .t 25, .t 27, .t 29], none⟩,
          ⟨some 8, .move, [.t 30], none⟩] [1, 2, 3, 8] [3])
        (.seq
         (.reg [] [⟨some 31, .load (some 4) false, [.t 3], none⟩,
           ⟨some 32, .call [] false, [.f 11, .t 31], none⟩,
           ⟨some 9, .alloc [.i 0, .i 0, .i 0, .nils], [], none⟩,
           ⟨none, .store 4 true, [.t 9, .t 32], none⟩] [1, 2, 3, 8, 9] [3, 9, 32])
         (.seq
          (.reg [] [⟨some 33, .move, [.t 1], none⟩,
            ⟨some 34, .call [] false, [.f 15, .t 33], none⟩,
            ⟨some 10, .move, [.t 34], none⟩] [1, 2, 3, 8, 9, 10] [3, 9, 32, 34])
          (.seq
           (.reg [] [⟨some 35, .move, [.t 2], none⟩,
             ⟨some 36, .call [] false, [.f 15, .t 35], none⟩,
             ⟨some 11, .move, [.t 36], none⟩] [1, 2, 3, 8, 9, 10, 11] [3, 9, 32, 34, 36])
           (.seq
            (.reg [] [⟨some 37, .load (some 4) false, [.t 9], none⟩,
              ⟨some 38, .move, [.t 10], none⟩,
              ⟨some 39, .move, [.t 11], none⟩,
              ⟨some 40, .call [] false, [.f 16, .t 37, .t 38, .t 39], none⟩,
              ⟨some 12, .move, [.t 40], none⟩] [1, 2, 3, 8, 9, 10, 11, 12] [3, 9, 32, 34, 36])
            (.seq
             (.seq
              (.reg [] [⟨some 41, .move, [.t 12], none⟩,
                ⟨some 42, .move, [.t 8], none⟩,
                ⟨some 43, .bne, [.t 41, .t 42], none⟩] [1, 2, 3, 9, 10, 11, 43] [3, 9, 32, 34, 36])
              (.cond (.t 43)
               (.seq
                (.reg [] [⟨some 6, .move, [.k (.b false)], none⟩] [6] [])
                .ret)
               .skip))
             (.seq
              (.seq
               (.reg [0, 1, 2, 4, 5] [⟨some 44, .load (some 4) false, [.t 9], none⟩,
                 ⟨some 45, .load (some 4) false, [.t 3], none⟩,
                 ⟨some 46, .call [] false, [.f 11, .t 45], none⟩,
                 ⟨none, .chk (.load (some 4) false), [.t 44, .t 9], none⟩,
                 ⟨some 47, .call [] false, [.f 13, .t 44, .t 46], none⟩,
                 ⟨some 48, .not, [.t 47], none⟩] [1, 2, 10, 11, 48] [34, 36])
               (.cond (.t 48)
                (.seq
                 (.reg [] [⟨some 6, .move, [.k (.b false)], none⟩] [6] [])
                 .ret)
                .skip))
              (.seq
               (.seq
                (.reg [] [⟨some 49, .move, [.t 10], none⟩,
                  ⟨some 50, .move, [.t 1], none⟩,
                  ⟨some 51, .call [] false, [.f 15, .t 50], none⟩,
                  ⟨some 52, .call [] false, [.f 17, .t 49, .t 51], none⟩,
                  ⟨some 53, .not, [.t 52], none⟩] [2, 11, 53] [36])
                (.cond (.t 53)
                 (.seq
                  (.reg [] [⟨some 6, .move, [.k (.b false)], none⟩] [6] [])
                  .ret)
                 .skip))
               (.seq
                (.seq
                 (.reg [] [⟨some 54, .move, [.t 11], none⟩,
                   ⟨some 55, .move, [.t 2], none⟩,
                   ⟨some 56, .call [] false, [.f 15, .t 55], none⟩,
                   ⟨some 57, .call [] false, [.f 17, .t 54, .t 56], none⟩,
                   ⟨some 58, .not, [.t 57], none⟩] [58] [])
                 (.cond (.t 58)
                  (.seq
                   (.reg [] [⟨some 6, .move, [.k (.b false)], none⟩] [6] [])
                   .ret)
                  .skip))
                (.seq
                 (.reg [] [⟨some 6, .move, [.k (.b true)], none⟩] [6] [])
                 .ret))))))))))))))))
def a4 : AF := ⟨c4, [.tmp 6]⟩
/-- spec.l13Uses -/
def c66 : AC :=
 (.seq
  (.reg [] [⟨some 2, .box, [.t 0], none⟩,
    ⟨some 4, .move, [.k (.b false)], none⟩] [1, 2] [2])
  (.seq
   (.seq
    (.reg [] [⟨some 5, .faddr 0, [.t 2], none⟩,
      ⟨some 6, .load none false, [.t 5], none⟩] [1, 2, 6] [2])
    (.block 0
     (.seq
      (.seq
       (.reg [] [⟨some 8, .bin .eq, [.t 6, .k (.i 1)], none⟩,
         ⟨some 7, .move, [.t 8], none⟩] [1, 2, 6, 7] [2])
       (.cond (.t 7)
        .skip
        (.reg [] [⟨some 9, .bin .eq, [.t 6, .k (.i 7)], none⟩,
          ⟨some 7, .move, [.t 9], none⟩] [1, 2, 6, 7] [2])))
      (.cond (.t 7)
       (.seq
        (.reg [] [⟨some 10, .faddr 1, [.t 2], none⟩,
          ⟨some 11, .load none false, [.t 10], none⟩,
          ⟨some 12, .move, [.t 1], none⟩,
          ⟨some 13, .bin .eq, [.t 11, .t 12], none⟩,
          ⟨some 14, .move, [.t 13], none⟩,
          ⟨some 15, .faddr 2, [.t 2], some (14, false)⟩,
          ⟨some 16, .load none false, [.t 15], some (14, false)⟩,
          ⟨some 17, .move, [.t 1], some (14, false)⟩,
          ⟨some 18, .bin .eq, [.t 16, .t 17], some (14, false)⟩,
          ⟨some 19, .pick, [.t 14, .k (.b true), .t 18], none⟩,
          ⟨some 4, .move, [.t 19], none⟩] [4] [])
        .ret)
       (.seq
        (.reg [] [⟨some 21, .bin .eq, [.t 6, .k (.i 2)], none⟩,
          ⟨some 20, .move, [.t 21], none⟩] [1, 2, 20] [2])
        (.cond (.t 20)
         (.seq
          (.reg [] [⟨some 22, .faddr 1, [.t 2], none⟩,
            ⟨some 23, .load none false, [.t 22], none⟩,
            ⟨some 24, .move, [.t 1], none⟩,
            ⟨some 25, .bin .eq, [.t 23, .t 24], none⟩,
            ⟨some 4, .move, [.t 25], none⟩] [4] [])
          .ret)
         .skip))))))
   (.seq
    (.reg [] [⟨some 4, .move, [.k (.b false)], none⟩] [4] [])
    .ret)))
def a66 : AF := ⟨c66, [.tmp 4]⟩
/-- spec.l13Binds -/
def c67 : AC :=
 (.seq
  (.reg [] [⟨some 1, .box, [.t 0], none⟩,
    ⟨some 2, .move, [.k (.i 0)], none⟩] [1] [1])
  (.seq
   (.seq
    (.reg [] [⟨some 3, .faddr 0, [.t 1], none⟩,
      ⟨some 4, .load none false, [.t 3], none⟩] [1, 4] [1])
    (.block 0
     (.seq
      (.reg [] [⟨some 6, .bin .eq, [.t 4, .k (.i 2)], none⟩,
        ⟨some 5, .move, [.t 6], none⟩] [1, 4, 5] [1])
      (.cond (.t 5)
       (.seq
        (.reg [] [⟨some 7, .faddr 2, [.t 1], none⟩,
          ⟨some 8, .load none false, [.t 7], none⟩,
          ⟨some 2, .move, [.t 8], none⟩] [2] [])
        .ret)
       (.seq
        (.reg [] [⟨some 10, .bin .eq, [.t 4, .k (.i 6)], none⟩,
          ⟨some 9, .move, [.t 10], none⟩] [1, 9] [1])
        (.cond (.t 9)
         (.seq
          (.reg [] [⟨some 11, .faddr 1, [.t 1], none⟩,
            ⟨some 12, .load none false, [.t 11], none⟩,
            ⟨some 2, .move, [.t 12], none⟩] [2] [])
          .ret)
         .skip))))))
   (.seq
    (.reg [] [⟨some 2, .move, [.k (.i (-1))], none⟩] [2] [])
    .ret)))
def a67 : AF := ⟨c67, [.tmp 2]⟩
def b46l0 : AC :=
 (.seq
  (.seq
   (.reg [] [⟨some 9, .move, [.t 5], none⟩,
     ⟨some 10, .faddr 3, [.t 2], none⟩,
     ⟨some 11, .load none false, [.t 10], none⟩,
     ⟨some 12, .len, [.t 11], none⟩,
     ⟨some 13, .bin .lt, [.t 9, .t 12], none⟩,
     ⟨some 14, .move, [.t 13], none⟩,
     ⟨some 15, .load (some 4) false, [.t 2], some (14, true)⟩,
     ⟨some 16, .call [] false, [.f 67, .t 15], some (14, true)⟩,
     ⟨some 17, .move, [.t 1], some (14, true)⟩,
     ⟨some 18, .bin .ne, [.t 16, .t 17], some (14, true)⟩,
     ⟨some 19, .pick, [.t 14, .t 18, .k (.b false)], none⟩] [1, 2, 5, 19] [2])
   (.cond (.t 19)
    .skip
    (.exit 0)))
  (.seq
   (.block 1
    (.seq
     (.reg [] [⟨some 22, .faddr 3, [.t 2], none⟩,
       ⟨some 23, .load none false, [.t 22], none⟩,
       ⟨some 24, .move, [.t 5], none⟩,
       ⟨some 25, .iaddr 4, [.t 23, .t 24], none⟩,
       ⟨some 26, .load (some 4) false, [.t 25], none⟩,
       ⟨some 27, .move, [.t 1], none⟩,
       ⟨some 28, .call [] false, [.f 46, .t 26, .t 27], none⟩] [1, 2, 5, 28] [2])
     (.cond (.t 28)
      (.seq
       (.reg [] [⟨some 4, .move, [.k (.b true)], none⟩] [4] [])
       .ret)
      .skip)))
   (.reg [] [⟨some 20, .move, [.t 5], none⟩,
     ⟨some 21, .bin .add, [.t 20, .k (.i 1)], none⟩,
     ⟨some 5, .move, [.t 21], none⟩] [1, 2, 5] [2])))
def c46l0 : AC := b46l0
theorem r46l0 (call lp s) : run call lp c46l0 s = run call lp b46l0 s := rfl
/-- spec.l13Free -/
def c46 : AC :=
 (.seq
  (.reg [] [⟨some 2, .box, [.t 0], none⟩,
    ⟨some 4, .move, [.k (.b false)], none⟩] [1, 2] [2])
  (.seq
   (.seq
    (.reg [] [⟨some 6, .load (some 4) false, [.t 2], none⟩,
      ⟨some 7, .move, [.t 1], none⟩,
      ⟨some 8, .call [] false, [.f 66, .t 6, .t 7], none⟩] [1, 2, 8] [2])
    (.cond (.t 8)
     (.seq
      (.reg [] [⟨some 4, .move, [.k (.b true)], none⟩] [4] [])
      .ret)
     .skip))
   (.seq
    (.seq
     (.reg [] [⟨some 5, .move, [.k (.i 0)], none⟩] [1, 2, 5] [2])
     (.block 0
      (.loop [1, 2, 5] [2] c46l0)))
    (.seq
     (.reg [] [⟨some 4, .move, [.k (.b false)], none⟩] [4] [])
     .ret))))
def a46 : AF := ⟨c46, [.tmp 4]⟩
def b18l0 : AC :=
 (.seq
  (.seq
   (.reg [] [⟨some 6, .move, [.t 4], none⟩,
     ⟨some 7, .bin .lt, [.t 6, .k (.i 30)], none⟩,
     ⟨some 8, .move, [.t 7], none⟩,
     ⟨some 9, .load (some 4) false, [.t 1], some (8, true)⟩,
     ⟨some 10, .call [] false, [.f 10, .t 9], some (8, true)⟩,
     ⟨some 11, .pick, [.t 8, .t 10, .k (.b false)], none⟩] [1, 3, 4, 11] [1, 5, 20])
   (.cond (.t 11)
    .skip
    (.exit 0)))
  (.seq
   (.block 1
    (.seq
     (.reg [] [⟨some 14, .load (some 4) false, [.t 1], none⟩,
       ⟨some 15, .move, [.t 4], none⟩,
       ⟨some 16, .call [] false, [.f 46, .t 14, .t 15], none⟩] [1, 3, 4, 16] [1, 5, 20])
     (.cond (.t 16)
      (.reg [] [⟨some 17, .move, [.t 3], none⟩,
        ⟨some 18, .move, [.t 4], none⟩,
        ⟨some 19, .bslice 1 true, [.t 18], none⟩,
        ⟨some 20, .append 1 true, [.t 17, .t 19], none⟩,
        ⟨some 3, .move, [.t 20], none⟩] [1, 3, 4] [1, 5, 20])
      .skip)))
   (.reg [] [⟨some 12, .move, [.t 4], none⟩,
     ⟨some 13, .bin .add, [.t 12, .k (.i 1)], none⟩,
     ⟨some 4, .move, [.t 13], none⟩] [1, 3, 4] [1, 5, 20])))
def c18l0 : AC := b18l0
theorem r18l0 (call lp s) : run call lp c18l0 s = run call lp b18l0 s := rfl
/-- spec.PiFree -/
def c18 : AC :=
 (.seq
  (.reg [] [⟨some 1, .box, [.t 0], none⟩,
    ⟨some 2, .move, [.k (.nils)], none⟩] [1] [1])
  (.seq
   (.reg [] [⟨some 5, .bslice 1 true, [], none⟩,
     ⟨some 3, .move, [.t 5], none⟩] [1, 3] [1, 5, 20])
   (.seq
    (.seq
     (.reg [] [⟨some 4, .move, [.k (.i 0)], none⟩] [1, 3, 4] [1, 5, 20])
     (.block 0
      (.loop [1, 3, 4] [1, 5, 20] c18l0)))
    (.seq
     (.reg [] [⟨some 21, .move, [.t 3], none⟩,
       ⟨some 2, .move, [.t 21], none⟩] [2] [5, 20])
     .ret))))
def a18 : AF := ⟨c18, [.tmp 2]⟩
/-- impl.binds -/
def c68 : AC :=
 (.seq
  (.reg [] [⟨some 1, .box, [.t 0], none⟩,
    ⟨some 2, .move, [.k (.i 0)], none⟩] [1] [1])
  (.seq
   (.seq
    (.reg [] [⟨some 3, .faddr 0, [.t 1], none⟩,
      ⟨some 4, .load none false, [.t 3], none⟩] [1, 4] [1])
    (.block 0
     (.seq
      (.reg [] [⟨some 6, .bin .eq, [.t 4, .k (.i 2)], none⟩,
        ⟨some 5, .move, [.t 6], none⟩] [1, 4, 5] [1])
      (.cond (.t 5)
       (.seq
        (.reg [] [⟨some 7, .faddr 2, [.t 1], none⟩,
          ⟨some 8, .load none false, [.t 7], none⟩,
          ⟨some 2, .move, [.t 8], none⟩] [2] [])
        .ret)
       (.seq
        (.reg [] [⟨some 10, .bin .eq, [.t 4, .k (.i 6)], none⟩,
          ⟨some 9, .move, [.t 10], none⟩] [1, 9] [1])
        (.cond (.t 9)
         (.seq
          (.reg [] [⟨some 11, .faddr 1, [.t 1], none⟩,
            ⟨some 12, .load none false, [.t 11], none⟩,
            ⟨some 2, .move, [.t 12], none⟩] [2] [])
          .ret)
         .skip))))))
   (.seq
    (.reg [] [⟨some 2, .move, [.k (.i (-1))], none⟩] [2] [])
    .ret)))
def a68 : AF := ⟨c68, [.tmp 2]⟩
/-- impl.uses -/
def c69 : AC :=
 (.seq
  (.reg [] [⟨some 1, .box, [.t 0], none⟩,
    ⟨some 2, .move, [.k (.nils)], none⟩] [1] [1])
  (.seq
   (.seq
    (.reg [] [⟨some 3, .faddr 0, [.t 1], none⟩,
      ⟨some 4, .load none false, [.t 3], none⟩] [1, 4] [1])
    (.block 0
     (.seq
      (.seq
       (.reg [] [⟨some 6, .bin .eq, [.t 4, .k (.i 1)], none⟩,
         ⟨some 5, .move, [.t 6], none⟩] [1, 4, 5] [1])
       (.cond (.t 5)
        .skip
        (.reg [] [⟨some 7, .bin .eq, [.t 4, .k (.i 7)], none⟩,
          ⟨some 5, .move, [.t 7], none⟩] [1, 4, 5] [1])))
      (.cond (.t 5)
       (.seq
        (.reg [] [⟨some 8, .faddr 1, [.t 1], none⟩,
          ⟨some 9, .load none false, [.t 8], none⟩,
          ⟨some 10, .faddr 2, [.t 1], none⟩,
          ⟨some 11, .load none false, [.t 10], none⟩,
          ⟨some 12, .bslice 1 true, [.t 9, .t 11], none⟩,
          ⟨some 2, .move, [.t 12], none⟩] [2] [12, 17])
        .ret)
       (.seq
        (.reg [] [⟨some 14, .bin .eq, [.t 4, .k (.i 2)], none⟩,
          ⟨some 13, .move, [.t 14], none⟩] [1, 13] [1])
        (.cond (.t 13)
         (.seq
          (.reg [] [⟨some 15, .faddr 1, [.t 1], none⟩,
            ⟨some 16, .load none false, [.t 15], none⟩,
            ⟨some 17, .bslice 1 true, [.t 16], none⟩,
            ⟨some 2, .move, [.t 17], none⟩] [2] [12, 17])
          .ret)
         .skip))))))
   (.seq
    (.reg [] [⟨some 2, .move, [.k (.nils)], none⟩] [2] [12, 17])
    .ret)))
def a69 : AF := ⟨c69, [.tmp 2]⟩
def b47l0 : AC :=
 (.seq
  (.reg [] [⟨some 22, .bin .lt, [.t 21, .k (.i 30)], none⟩] [1, 2, 3, 13, 14, 15, 20, 21, 22] [1, 2, 3])
  (.seq
   (.cond (.t 22)
    .skip
    (.exit 2))
   (.seq
    (.block 3
     (.seq
      (.reg [] [⟨some 23, .move, [.t 21], none⟩,
        ⟨some 24, .idx none 1 30, [.t 20, .t 21], none⟩,
        ⟨some 6, .move, [.t 23], none⟩,
        ⟨some 7, .move, [.t 24], none⟩] [1, 2, 3, 6, 7, 13, 14, 15, 20, 21] [1, 2, 3])
      (.reg [] [⟨some 25, .move, [.t 6], none⟩,
        ⟨some 26, .move, [.t 6], none⟩,
        ⟨some 27, .iarr 1 30, [.t 3, .t 26], none⟩,
        ⟨some 28, .load none false, [.t 27], none⟩,
        ⟨some 29, .move, [.t 28], none⟩,
        ⟨some 30, .move, [.t 7], some (29, false)⟩,
        ⟨some 31, .pick, [.t 29, .k (.b true), .t 30], none⟩,
        ⟨some 32, .iarr 1 30, [.t 3, .t 25], none⟩,
        ⟨none, .store 1 true, [.t 32, .t 31], none⟩] [1, 2, 3, 13, 14, 15, 20, 21] [1, 2, 3])))
    (.reg [] [⟨some 33, .bin .add, [.t 21, .k (.i 1)], none⟩,
      ⟨some 21, .move, [.t 33], none⟩] [1, 2, 3, 13, 14, 15, 20, 21] [1, 2, 3]))))
def c47l0 : AC := b47l0
theorem r47l0 (call lp s) : run call lp c47l0 s = run call lp b47l0 s := rfl
def b47l1 : AC :=
 (.seq
  (.reg [] [⟨some 16, .bin .lt, [.t 15, .t 14], none⟩] [1, 2, 3, 13, 14, 15, 16] [1, 2, 3])
  (.seq
   (.cond (.t 16)
    .skip
    (.exit 0))
   (.seq
    (.block 1
     (.seq
      (.reg [] [⟨some 17, .iaddr 4, [.t 13, .t 15], none⟩,
        ⟨some 18, .load (some 4) false, [.t 17], none⟩,
        ⟨some 5, .alloc [.i 0, .i 0, .i 0, .nils], [], none⟩,
        ⟨none, .store 4 true, [.t 5, .t 18], none⟩] [1, 2, 3, 5, 13, 14, 15] [1, 2, 3, 5])
      (.seq
       (.reg [] [⟨some 19, .load (some 4) false, [.t 5], none⟩,
         ⟨some 20, .call [] false, [.f 47, .t 19], none⟩,
         ⟨some 21, .move, [.k (.i 0)], none⟩] [1, 2, 3, 13, 14, 15, 20, 21] [1, 2, 3])
       (.block 2
        (.loop [1, 2, 3, 13, 14, 15, 20, 21] [1, 2, 3] c47l0)))))
    (.reg [] [⟨some 34, .bin .add, [.t 15, .k (.i 1)], none⟩,
      ⟨some 15, .move, [.t 34], none⟩] [1, 2, 3, 13, 14, 15] [1, 2, 3]))))
def c47l1 : AC := b47l1
theorem r47l1 (call lp s) : run call lp c47l1 s = run call lp b47l1 s := rfl
def b47l2 : AC :=
 (.seq
  (.reg [] [⟨some 45, .bin .lt, [.t 44, .t 43], none⟩] [2, 3, 42, 43, 44, 45] [2, 3, 42])
  (.seq
   (.cond (.t 45)
    .skip
    (.exit 4))
   (.seq
    (.block 5
     (.seq
      (.reg [] [⟨some 46, .iaddr 1, [.t 42, .t 44], none⟩,
        ⟨some 47, .load none false, [.t 46], none⟩,
        ⟨some 10, .move, [.t 47], none⟩] [2, 3, 10, 42, 43, 44] [2, 3, 42])
      (.reg [] [⟨some 48, .move, [.t 10], none⟩,
        ⟨some 49, .iarr 1 30, [.t 3, .t 48], none⟩,
        ⟨none, .store 1 true, [.t 49, .k (.b true)], none⟩] [2, 3, 42, 43, 44] [2, 3, 42])))
    (.reg [] [⟨some 50, .bin .add, [.t 44, .k (.i 1)], none⟩,
      ⟨some 44, .move, [.t 50], none⟩] [2, 3, 42, 43, 44] [2, 3, 42]))))
def c47l2 : AC := b47l2
theorem r47l2 (call lp s) : run call lp c47l2 s = run call lp b47l2 s := rfl
/-- impl.free -/
def c47 : AC :=
 (.seq
  (.reg [] [⟨some 1, .box, [.t 0], none⟩,
    ⟨some 2, .alloc [.b false, .b false, .b false, .b false, .b false, .b false, .b false, .b false, .b false, .b false, .b false, .b false, .b false, .b false, .b false, .b false, .b false, .b false, .b false, .b false, .b false, .b false, .b false, .b false, .b false, .b false, .b false, .b false, .b false, .b false], [], none⟩] [1, 2] [1, 2])
  (.seq
   (.reg [] [⟨some 11, .build [.b false, .b false, .b false, .b false, .b false, .b false, .b false, .b false, .b false, .b false, .b false, .b false, .b false, .b false, .b false, .b false, .b false, .b false, .b false, .b false, .b false, .b false, .b false, .b false, .b false, .b false, .b false, .b false, .b false, .b false] [], [], none⟩,
     ⟨some 3, .alloc [.b false, .b false, .b false, .b false, .b false, .b false, .b false, .b false, .b false, .b false, .b false, .b false, .b false, .b false, .b false, .b false, .b false, .b false, .b false, .b false, .b false, .b false, .b false, .b false, .b false, .b false, .b false, .b false, .b false, .b false], [], none⟩,
     ⟨none, .store 30 true, [.t 3, .t 11], none⟩] [1, 2, 3] [1, 2, 3])
   (.seq
    (.seq
     (.reg [] [⟨some 12, .faddr 3, [.t 1], none⟩,
       ⟨some 13, .load none false, [.t 12], none⟩,
       ⟨some 14, .len, [.t 13], none⟩,
       ⟨some 15, .move, [.k (.i 0)], none⟩] [1, 2, 3, 13, 14, 15] [1, 2, 3])
     (.block 0
      (.loop [1, 2, 3, 13, 14, 15] [1, 2, 3] c47l1)))
    (.seq
     (.seq
      (.reg [] [⟨some 35, .load (some 4) false, [.t 1], none⟩,
        ⟨some 36, .call [] false, [.f 68, .t 35], none⟩,
        ⟨some 8, .move, [.t 36], none⟩] [1, 2, 3, 8] [1, 2, 3])
      (.seq
       (.reg [] [⟨some 37, .move, [.t 8], none⟩,
         ⟨some 38, .bin .ge, [.t 37, .k (.i 0)], none⟩] [1, 2, 3, 8, 38] [1, 2, 3])
       (.cond (.t 38)
        (.reg [] [⟨some 39, .move, [.t 8], none⟩,
          ⟨some 40, .iarr 1 30, [.t 3, .t 39], none⟩,
          ⟨none, .store 1 true, [.t 40, .k (.b false)], none⟩] [1, 2, 3] [1, 2, 3])
        .skip)))
     (.seq
      (.seq
       (.reg [] [⟨some 41, .load (some 4) false, [.t 1], none⟩,
         ⟨some 42, .call [] false, [.f 69, .t 41], none⟩,
         ⟨some 43, .len, [.t 42], none⟩,
         ⟨some 44, .move, [.k (.i 0)], none⟩] [2, 3, 42, 43, 44] [2, 3, 42])
       (.block 4
        (.loop [2, 3, 42, 43, 44] [2, 3, 42] c47l2)))
      (.seq
       (.reg [] [⟨some 51, .load (some 30) false, [.t 3], none⟩,
         ⟨none, .store 30 true, [.t 2, .t 51], none⟩] [2] [2])
       .ret))))))
def a47 : AF := ⟨c47, [.cell 2 (some 30)]⟩
def b19l0 : AC :=
 (.seq
  (.reg [] [⟨some 14, .bin .lt, [.t 13, .k (.i 30)], none⟩] [3, 12, 13, 14] [6, 21])
  (.seq
   (.cond (.t 14)
    .skip
    (.exit 0))
   (.seq
    (.block 1
     (.seq
      (.reg [] [⟨some 15, .move, [.t 13], none⟩,
        ⟨some 16, .idx none 1 30, [.t 12, .t 13], none⟩,
        ⟨some 4, .move, [.t 15], none⟩,
        ⟨some 5, .move, [.t 16], none⟩] [3, 4, 5, 12, 13] [6, 21])
      (.seq
       (.reg [] [⟨some 17, .move, [.t 5], none⟩] [3, 4, 12, 13, 17] [6, 21])
       (.cond (.t 17)
        (.reg [] [⟨some 18, .move, [.t 3], none⟩,
          ⟨some 19, .move, [.t 4], none⟩,
          ⟨some 20, .bslice 1 true, [.t 19], none⟩,
          ⟨some 21, .append 1 true, [.t 18, .t 20], none⟩,
          ⟨some 3, .move, [.t 21], none⟩] [3, 12, 13] [6, 21])
        .skip))))
    (.reg [] [⟨some 22, .bin .add, [.t 13, .k (.i 1)], none⟩,
      ⟨some 13, .move, [.t 22], none⟩] [3, 12, 13] [6, 21]))))
def c19l0 : AC := b19l0
theorem r19l0 (call lp s) : run call lp c19l0 s = run call lp b19l0 s := rfl
/-- impl.PiFree -/
def c19 : AC :=
 (.seq
  (.reg [] [⟨some 1, .box, [.t 0], none⟩,
    ⟨some 2, .move, [.k (.nils)], none⟩] [1] [1])
  (.seq
   (.reg [] [⟨some 6, .bslice 1 true, [], none⟩,
     ⟨some 3, .move, [.t 6], none⟩] [1, 3] [1, 6, 21])
   (.seq
    (.seq
     (.reg [] [⟨some 7, .load (some 4) false, [.t 1], none⟩,
       ⟨some 8, .call [] false, [.f 12, .t 7], none⟩,
       ⟨some 9, .not, [.t 8], none⟩] [1, 3, 9] [1, 6, 21])
     (.cond (.t 9)
      (.seq
       (.reg [] [⟨some 10, .move, [.t 3], none⟩,
         ⟨some 2, .move, [.t 10], none⟩] [2] [6, 21])
       .ret)
      .skip))
    (.seq
     (.seq
      (.reg [] [⟨some 11, .load (some 4) false, [.t 1], none⟩,
        ⟨some 12, .call [] false, [.f 47, .t 11], none⟩,
        ⟨some 13, .move, [.k (.i 0)], none⟩] [3, 12, 13] [6, 21])
      (.block 0
       (.loop [3, 12, 13] [6, 21] c19l0)))
     (.seq
      (.reg [] [⟨some 23, .move, [.t 3], none⟩,
        ⟨some 2, .move, [.t 23], none⟩] [2] [6, 21])
      .ret)))))
def a19 : AF := ⟨c19, [.tmp 2]⟩
def b48l0 : AC :=
 (.seq
  (.seq
   (.reg [] [⟨some 6, .move, [.t 5], none⟩,
     ⟨some 7, .move, [.t 0], none⟩,
     ⟨some 8, .len, [.t 7], none⟩,
     ⟨some 9, .bin .lt, [.t 6, .t 8], none⟩] [0, 1, 5, 9] [])
   (.cond (.t 9)
    .skip
    (.exit 0)))
  (.seq
   (.block 1
    (.seq
     (.reg [] [⟨some 12, .move, [.t 0], none⟩,
       ⟨some 13, .move, [.t 5], none⟩,
       ⟨some 14, .move, [.t 1], none⟩,
       ⟨some 15, .iaddr 4, [.t 12, .t 13], none⟩,
       ⟨some 16, .faddr 0, [.t 15], none⟩,
       ⟨none, .store 1 true, [.t 16, .t 14], none⟩] [0, 1, 5] [])
     (.seq
      (.reg [] [⟨some 17, .move, [.t 1], none⟩,
        ⟨some 18, .bin .add, [.t 17, .k (.i 1)], none⟩,
        ⟨some 1, .move, [.t 18], none⟩] [0, 1, 5] [])
      (.seq
       (.reg [] [⟨some 19, .move, [.t 0], none⟩,
         ⟨some 20, .move, [.t 5], none⟩,
         ⟨some 21, .move, [.t 1], none⟩,
         ⟨some 22, .iaddr 4, [.t 19, .t 20], none⟩,
         ⟨some 23, .faddr 1, [.t 22], none⟩,
         ⟨none, .store 1 true, [.t 23, .t 21], none⟩] [0, 1, 5] [])
       (.seq
        (.reg [] [⟨some 24, .move, [.t 1], none⟩,
          ⟨some 25, .bin .add, [.t 24, .k (.i 1)], none⟩,
          ⟨some 1, .move, [.t 25], none⟩] [0, 1, 5] [])
        (.seq
         (.reg [] [⟨some 26, .move, [.t 0], none⟩,
           ⟨some 27, .move, [.t 5], none⟩,
           ⟨some 28, .move, [.t 1], none⟩,
           ⟨some 29, .iaddr 4, [.t 26, .t 27], none⟩,
           ⟨some 30, .faddr 2, [.t 29], none⟩,
           ⟨none, .store 1 true, [.t 30, .t 28], none⟩] [0, 1, 5] [])
         (.seq
          (.reg [] [⟨some 31, .move, [.t 1], none⟩,
            ⟨some 32, .bin .add, [.t 31, .k (.i 1)], none⟩,
            ⟨some 1, .move, [.t 32], none⟩] [0, 1, 5] [])
          (.nest [⟨some 33, .move, [.t 0], none⟩,
            ⟨some 34, .move, [.t 5], none⟩,
            ⟨some 35, .iaddr 4, [.t 33, .t 34], none⟩,
            ⟨some 36, .faddr 3, [.t 35], none⟩]
           ⟨some 37, .take, [.t 36], none⟩ [⟨some 38, .move, [.t 1], none⟩]
           ⟨some 39, .call [0] false, [.f 48, .t 37, .t 38], none⟩ [⟨some 1, .move, [.t 39], none⟩] [0, 1, 5] []))))))))
   (.reg [] [⟨some 10, .move, [.t 5], none⟩,
     ⟨some 11, .bin .add, [.t 10, .k (.i 1)], none⟩,
     ⟨some 5, .move, [.t 11], none⟩] [0, 1, 5] [])))
def c48l0 : AC := b48l0
theorem r48l0 (call lp s) : run call lp c48l0 s = run call lp b48l0 s := rfl
/-- laws.markPiS -/
def c48 : AC :=
 (.seq
  (.reg [] [⟨some 4, .move, [.k (.i 0)], none⟩] [0, 1] [])
  (.seq
   (.seq
    (.reg [] [⟨some 5, .move, [.k (.i 0)], none⟩] [0, 1, 5] [])
    (.block 0
     (.loop [0, 1, 5] [] c48l0)))
   (.seq
    (.reg [] [⟨some 40, .move, [.t 1], none⟩,
      ⟨some 4, .move, [.t 40], none⟩] [4] [])
    .ret)))
def a48 : AF := ⟨c48, [.tmp 4]⟩
/-- laws.markPi -/
def c20 : AC :=
 (.seq
  (.reg [] [⟨some 2, .box, [.t 0], none⟩,
    ⟨some 4, .move, [.k (.i 0)], none⟩] [1, 2] [2])
  (.seq
   (.reg [] [⟨some 5, .faddr 3, [.t 2], none⟩,
     ⟨some 6, .load none false, [.t 5], none⟩,
     ⟨some 7, .move, [.t 1], none⟩,
     ⟨some 8, .call [0] false, [.f 48, .t 6, .t 7], none⟩,
     ⟨some 1, .move, [.t 8], none⟩] [1] [])
   (.seq
    (.reg [] [⟨some 9, .move, [.t 1], none⟩,
      ⟨some 4, .move, [.t 9], none⟩] [4] [])
    .ret)))
def a20 : AF := ⟨c20, [.tmp 4]⟩
def b21l0 : AC :=
 (.seq
  (.seq
   (.reg [] [⟨some 6, .move, [.t 5], none⟩,
     ⟨some 7, .move, [.t 0], none⟩,
     ⟨some 8, .len, [.t 7], none⟩,
     ⟨some 9, .bin .lt, [.t 6, .t 8], none⟩] [0, 1, 5, 9] [])
   (.cond (.t 9)
    .skip
    (.exit 0)))
  (.seq
   (.block 1
    (.seq
     (.reg [] [⟨some 12, .move, [.t 0], none⟩,
       ⟨some 13, .move, [.t 5], none⟩,
       ⟨some 14, .move, [.t 1], none⟩,
       ⟨some 15, .iaddr 1, [.t 12, .t 13], none⟩,
       ⟨none, .store 1 true, [.t 15, .t 14], none⟩] [0, 1, 5] [])
     (.reg [] [⟨some 16, .move, [.t 1], none⟩,
       ⟨some 17, .bin .add, [.t 16, .k (.i 1)], none⟩,
       ⟨some 1, .move, [.t 17], none⟩] [0, 1, 5] [])))
   (.reg [] [⟨some 10, .move, [.t 5], none⟩,
     ⟨some 11, .bin .add, [.t 10, .k (.i 1)], none⟩,
     ⟨some 5, .move, [.t 11], none⟩] [0, 1, 5] [])))
def c21l0 : AC := b21l0
theorem r21l0 (call lp s) : run call lp c21l0 s = run call lp b21l0 s := rfl
/-- laws.markIntS -/
def c21 : AC :=
 (.seq
  (.reg [] [⟨some 4, .move, [.k (.i 0)], none⟩] [0, 1] [])
  (.seq
   (.seq
    (.reg [] [⟨some 5, .move, [.k (.i 0)], none⟩] [0, 1, 5] [])
    (.block 0
     (.loop [0, 1, 5] [] c21l0)))
   (.seq
    (.reg [] [⟨some 18, .move, [.t 1], none⟩,
      ⟨some 4, .move, [.t 18], none⟩] [4] [])
    .ret)))
def a21 : AF := ⟨c21, [.tmp 4]⟩
def b22l0 : AC :=
 (.seq
  (.seq
   (.reg [] [⟨some 6, .move, [.t 5], none⟩,
     ⟨some 7, .move, [.t 0], none⟩,
     ⟨some 8, .len, [.t 7], none⟩,
     ⟨some 9, .bin .lt, [.t 6, .t 8], none⟩] [0, 1, 5, 9] [])
   (.cond (.t 9)
    .skip
    (.exit 0)))
  (.seq
   (.block 1
    (.seq
     (.seq
      (.reg [] [⟨some 12, .move, [.t 0], none⟩,
        ⟨some 13, .move, [.t 5], none⟩,
        ⟨some 14, .iaddr 1, [.t 12, .t 13], none⟩,
        ⟨some 15, .load none false, [.t 14], none⟩,
        ⟨some 16, .move, [.t 1], none⟩,
        ⟨some 17, .bin .ne, [.t 15, .t 16], none⟩] [0, 1, 5, 17] [])
      (.cond (.t 17)
       (.seq
        (.reg [] [⟨some 4, .move, [.k (.i (-1))], none⟩] [4] [])
        .ret)
       .skip))
     (.reg [] [⟨some 18, .move, [.t 1], none⟩,
       ⟨some 19, .bin .add, [.t 18, .k (.i 1)], none⟩,
       ⟨some 1, .move, [.t 19], none⟩] [0, 1, 5] [])))
   (.reg [] [⟨some 10, .move, [.t 5], none⟩,
     ⟨some 11, .bin .add, [.t 10, .k (.i 1)], none⟩,
     ⟨some 5, .move, [.t 11], none⟩] [0, 1, 5] [])))
def c22l0 : AC := b22l0
theorem r22l0 (call lp s) : run call lp c22l0 s = run call lp b22l0 s := rfl
/-- laws.heldIntS -/
def c22 : AC :=
 (.seq
  (.reg [] [⟨some 4, .move, [.k (.i 0)], none⟩] [0, 1] [])
  (.seq
   (.seq
    (.reg [] [⟨some 5, .move, [.k (.i 0)], none⟩] [0, 1, 5] [])
    (.block 0
     (.loop [0, 1, 5] [] c22l0)))
   (.seq
    (.reg [] [⟨some 20, .move, [.t 1], none⟩,
      ⟨some 4, .move, [.t 20], none⟩] [4] [])
    .ret)))
def a22 : AF := ⟨c22, [.tmp 4]⟩
/-- laws.FnExactPiFree -/
def c5 : AC :=
 (.seq
  (.reg [] [⟨some 1, .box, [.t 0], none⟩,
    ⟨some 2, .move, [.k (.b false)], none⟩] [1] [1])
  (.seq
   (.reg [] [⟨some 3, .move, [.k (.i 1048576)], none⟩] [1, 3] [1])
   (.seq
    (.reg [] [⟨some 11, .load (some 4) false, [.t 1], none⟩,
      ⟨some 12, .move, [.t 3], none⟩,
      ⟨some 13, .call [] false, [.f 9, .t 11, .t 12], none⟩,
      ⟨some 3, .move, [.t 13], none⟩] [1, 3] [1])
    (.seq
     (.seq
      (.reg [] [⟨some 14, .move, [.t 3], none⟩,
        ⟨some 15, .bin .lt, [.t 14, .k (.i 0)], none⟩] [1, 15] [1])
      (.cond (.t 15)
       (.seq
        (.reg [] [⟨some 2, .move, [.k (.b true)], none⟩] [2] [])
        .ret)
       .skip))
     (.seq
      (.reg [] [⟨some 16, .load (some 4) false, [.t 1], none⟩,
        ⟨some 17, .call [] false, [.f 11, .t 16], none⟩,
        ⟨some 18, .call [] false, [.f 18, .t 17], none⟩,
        ⟨some 4, .move, [.t 18], none⟩] [1, 4] [1, 17, 18])
      (.seq
       (.reg [] [⟨some 19, .load (some 4) false, [.t 1], none⟩,
         ⟨some 20, .call [] false, [.f 11, .t 19], none⟩,
         ⟨some 5, .alloc [.i 0, .i 0, .i 0, .nils], [], none⟩,
         ⟨none, .store 4 true, [.t 5, .t 20], none⟩] [1, 4, 5] [1, 5, 17, 18, 20])
       (.seq
        (.reg [] [⟨some 21, .load (some 4) false, [.t 5], none⟩,
          ⟨some 22, .call [] false, [.f 19, .t 21], none⟩,
          ⟨some 6, .move, [.t 22], none⟩] [1, 4, 5, 6] [1, 5, 17, 18, 20, 22])
        (.seq
         (.seq
          (.reg [] [⟨some 23, .move, [.t 6], none⟩,
            ⟨some 24, .move, [.t 4], none⟩,
            ⟨some 25, .call [] false, [.f 17, .t 23, .t 24], none⟩,
            ⟨some 26, .not, [.t 25], none⟩] [1, 4, 5, 6, 26] [1, 5, 17, 18, 20, 22])
          (.cond (.t 26)
           (.seq
            (.reg [] [⟨some 2, .move, [.k (.b false)], none⟩] [2] [])
            .ret)
           .skip))
         (.seq
          (.seq
           (.reg [0, 1, 2, 4, 5] [⟨some 27, .load (some 4) false, [.t 5], none⟩,
             ⟨some 28, .load (some 4) false, [.t 1], none⟩,
             ⟨some 29, .call [] false, [.f 11, .t 28], none⟩,
             ⟨none, .chk (.load (some 4) false), [.t 27, .t 5], none⟩,
             ⟨some 30, .call [] false, [.f 13, .t 27, .t 29], none⟩,
             ⟨some 31, .not, [.t 30], none⟩] [1, 4, 5, 6, 31] [1, 5, 17, 18, 20, 22])
           (.cond (.t 31)
            (.seq
             (.reg [] [⟨some 2, .move, [.k (.b false)], none⟩] [2] [])
             .ret)
            .skip))
          (.seq
           (.reg [] [⟨some 7, .move, [.k (.i 1)], none⟩] [1, 4, 5, 6, 7] [1, 5, 17, 18, 20, 22])
           (.seq
            (.reg [] [⟨some 32, .load (some 4) false, [.t 5], none⟩,
              ⟨some 33, .move, [.t 7], none⟩,
              ⟨some 34, .call [0] false, [.f 20, .t 32, .t 33], none⟩,
              ⟨some 7, .move, [.t 34], none⟩] [1, 4, 6, 7] [1, 17, 18, 20, 22])
            (.seq
             (.seq
              (.reg [] [⟨some 35, .move, [.t 7], none⟩,
                ⟨some 36, .bin .lt, [.t 35, .k (.i 0)], none⟩,
                ⟨some 37, .move, [.t 36], none⟩,
                ⟨some 38, .move, [.t 6], some (37, false)⟩,
                ⟨some 39, .move, [.t 4], some (37, false)⟩,
                ⟨some 40, .call [] false, [.f 17, .t 38, .t 39], some (37, false)⟩,
                ⟨some 41, .not, [.t 40], some (37, false)⟩,
                ⟨some 42, .pick, [.t 37, .k (.b true), .t 41], none⟩] [1, 4, 6, 42] [1, 17, 18, 20, 22])
              (.cond (.t 42)
               (.seq
                (.reg [] [⟨some 2, .move, [.k (.b false)], none⟩] [2] [])
                .ret)
               .skip))
             (.seq
              (.reg [] [⟨some 8, .move, [.k (.i 1)], none⟩] [1, 4, 6, 8] [1, 17, 18, 20, 22])
              (.seq
               (.reg [] [⟨some 43, .move, [.t 6], none⟩,
                 ⟨some 44, .move, [.t 8], none⟩,
                 ⟨some 45, .call [0] false, [.f 21, .t 43, .t 44], none⟩,
                 ⟨some 8, .move, [.t 45], none⟩] [1, 4, 6, 8] [1, 17, 18, 20, 22])
               (.seq
                (.reg [] [⟨some 9, .move, [.k (.i 1)], none⟩] [1, 4, 6, 8, 9] [1, 17, 18, 20, 22])
                (.seq
                 (.reg [] [⟨some 46, .move, [.t 6], none⟩,
                   ⟨some 47, .move, [.t 9], none⟩,
                   ⟨some 48, .call [] false, [.f 22, .t 46, .t 47], none⟩,
                   ⟨some 9, .move, [.t 48], none⟩] [1, 4, 6, 8, 9] [1, 17, 18, 20, 22])
                 (.seq
                  (.seq
                   (.reg [] [⟨some 49, .move, [.t 9], none⟩,
                     ⟨some 50, .bin .lt, [.t 49, .k (.i 0)], none⟩] [1, 4, 6, 8, 9, 50] [1, 17, 18, 20, 22])
                   (.cond (.t 50)
                    (.seq
                     (.reg [] [⟨some 2, .move, [.k (.b false)], none⟩] [2] [])
                     .ret)
                    .skip))
                  (.seq
                   (.seq
                    (.reg [] [⟨some 51, .move, [.t 9], none⟩,
                      ⟨some 52, .move, [.t 8], none⟩,
                      ⟨some 53, .bin .ne, [.t 51, .t 52], none⟩] [1, 4, 6, 8, 53] [1, 17, 18, 20, 22])
                    (.cond (.t 53)
                     (.seq
                      (.reg [] [⟨some 2, .move, [.k (.b false)], none⟩] [2] [])
                      .ret)
                     .skip))
                   (.seq
                    (.reg [] [⟨some 54, .load (some 4) false, [.t 1], none⟩,
                      ⟨some 55, .call [] false, [.f 11, .t 54], none⟩,
                      ⟨some 56, .call [] false, [.f 19, .t 55], none⟩,
                      ⟨some 10, .move, [.t 56], none⟩] [4, 6, 8, 10] [17, 18, 20, 22, 55, 56])
                    (.seq
                     (.seq
                      (.reg [] [⟨some 57, .move, [.t 10], none⟩,
                        ⟨some 58, .move, [.t 4], none⟩,
                        ⟨some 59, .call [] false, [.f 17, .t 57, .t 58], none⟩,
                        ⟨some 60, .not, [.t 59], none⟩] [6, 8, 60] [20, 22])
                      (.cond (.t 60)
                       (.seq
                        (.reg [] [⟨some 2, .move, [.k (.b false)], none⟩] [2] [])
                        .ret)
                       .skip))
                     (.seq
                      (.reg [] [⟨some 9, .move, [.k (.i 1)], none⟩] [6, 8, 9] [20, 22])
                      (.seq
                       (.reg [] [⟨some 61, .move, [.t 6], none⟩,
                         ⟨some 62, .move, [.t 9], none⟩,
                         ⟨some 63, .call [] false, [.f 22, .t 61, .t 62], none⟩,
                         ⟨some 9, .move, [.t 63], none⟩] [8, 9] [])
                       (.seq
                        (.seq
                         (.reg [] [⟨some 64, .move, [.t 9], none⟩,
                           ⟨some 65, .bin .lt, [.t 64, .k (.i 0)], none⟩] [8, 9, 65] [])
                         (.cond (.t 65)
                          (.seq
                           (.reg [] [⟨some 2, .move, [.k (.b false)], none⟩] [2] [])
                           .ret)
                          .skip))
                        (.seq
                         (.seq
                          (.reg [] [⟨some 66, .move, [.t 9], none⟩,
                            ⟨some 67, .move, [.t 8], none⟩,
                            ⟨some 68, .bin .ne, [.t 66, .t 67], none⟩] [68] [])
                          (.cond (.t 68)
                           (.seq
                            (.reg [] [⟨some 2, .move, [.k (.b false)], none⟩] [2] [])
                            .ret)
                           .skip))
                         (.seq
                          (.reg [] [⟨some 2, .move, [.k (.b true)], none⟩] [2] [])
                          .ret)))))))))))))))))))))))))
def a5 : AF := ⟨c5, [.tmp 2]⟩
/-- laws.szIntS -/
def c51 : AC :=
 (.seq
  (.reg [] [⟨some 4, .move, [.k (.i 0)], none⟩] [0, 1] [])
  (.seq
   (.reg [] [⟨some 5, .move, [.t 1], none⟩,
     ⟨some 6, .move, [.t 0], none⟩,
     ⟨some 7, .len, [.t 6], none⟩,
     ⟨some 8, .bin .sub, [.t 5, .t 7], none⟩,
     ⟨some 1, .move, [.t 8], none⟩] [1] [])
   (.seq
    (.seq
     (.reg [] [⟨some 9, .move, [.t 1], none⟩,
       ⟨some 10, .bin .lt, [.t 9, .k (.i 0)], none⟩] [1, 10] [])
     (.cond (.t 10)
      (.seq
       (.reg [] [⟨some 4, .move, [.k (.i (-1))], none⟩] [4] [])
       .ret)
      .skip))
    (.seq
     (.reg [] [⟨some 11, .move, [.t 1], none⟩,
       ⟨some 4, .move, [.t 11], none⟩] [4] [])
     .ret))))
def a51 : AF := ⟨c51, [.tmp 4]⟩
/-- laws.szPool -/
def c27 : AC :=
 (.seq
  (.reg [] [⟨some 2, .box, [.t 0], none⟩,
    ⟨some 4, .move, [.k (.i 0)], none⟩] [1, 2] [2])
  (.seq
   (.reg [] [⟨some 5, .faddr 0, [.t 2], none⟩,
     ⟨some 6, .load none false, [.t 5], none⟩,
     ⟨some 7, .move, [.t 1], none⟩,
     ⟨some 8, .call [] false, [.f 51, .t 6, .t 7], none⟩,
     ⟨some 1, .move, [.t 8], none⟩] [1, 2] [2])
   (.seq
    (.seq
     (.reg [] [⟨some 9, .move, [.t 1], none⟩,
       ⟨some 10, .bin .lt, [.t 9, .k (.i 0)], none⟩] [1, 2, 10] [2])
     (.cond (.t 10)
      (.seq
       (.reg [] [⟨some 4, .move, [.k (.i (-1))], none⟩] [4] [])
       .ret)
      .skip))
    (.seq
     (.reg [] [⟨some 11, .faddr 1, [.t 2], none⟩,
       ⟨some 12, .load none false, [.t 11], none⟩,
       ⟨some 13, .move, [.t 1], none⟩,
       ⟨some 14, .call [] false, [.f 35, .t 12, .t 13], none⟩,
       ⟨some 1, .move, [.t 14], none⟩] [1] [])
     (.seq
      (.seq
       (.reg [] [⟨some 15, .move, [.t 1], none⟩,
         ⟨some 16, .bin .lt, [.t 15, .k (.i 0)], none⟩] [1, 16] [])
       (.cond (.t 16)
        (.seq
         (.reg [] [⟨some 4, .move, [.k (.i (-1))], none⟩] [4] [])
         .ret)
        .skip))
      (.seq
       (.reg [] [⟨some 17, .move, [.t 1], none⟩,
         ⟨some 4, .move, [.t 17], none⟩] [4] [])
       .ret))))))
def a27 : AF := ⟨c27, [.tmp 4]⟩
/-- laws.toPool -/
def c29 : AC :=
 (.seq
  (.reg [] [⟨some 1, .box, [.t 0], none⟩,
    ⟨some 2, .alloc [.nils, .nils], [], none⟩] [1, 2] [1, 2, 6, 10])
  (.seq
   (.reg [] [⟨some 3, .alloc [.nils, .nils], [], none⟩] [1, 2, 3] [1, 2, 3, 6, 10])
   (.seq
    (.reg [] [⟨some 4, .faddr 0, [.t 1], none⟩,
      ⟨some 5, .load none false, [.t 4], none⟩,
      ⟨some 6, .call [] false, [.f 15, .t 5], none⟩,
      ⟨some 7, .faddr 0, [.t 3], none⟩,
      ⟨none, .store 1 true, [.t 7, .t 6], none⟩] [1, 2, 3] [1, 2, 3, 6, 10])
    (.seq
     (.reg [] [⟨some 8, .faddr 1, [.t 1], none⟩,
       ⟨some 9, .load none false, [.t 8], none⟩,
       ⟨some 10, .call [] false, [.f 38, .t 9], none⟩,
       ⟨some 11, .faddr 1, [.t 3], none⟩,
       ⟨none, .store 1 true, [.t 11, .t 10], none⟩] [2, 3] [2, 3, 6, 10])
     (.seq
      (.reg [] [⟨some 12, .load (some 2) false, [.t 3], none⟩,
        ⟨none, .store 2 true, [.t 2, .t 12], none⟩] [2] [2, 6, 10])
      .ret)))))
def a29 : AF := ⟨c29, [.cell 2 (some 2)]⟩
/-- spec.l14Member -/
def c52 : AC :=
 (.seq
  (.reg [] [⟨some 1, .box, [.t 0], none⟩,
    ⟨some 2, .move, [.k (.b false)], none⟩] [1] [1])
  (.seq
   (.reg [] [⟨some 3, .faddr 0, [.t 1], none⟩,
     ⟨some 4, .load none false, [.t 3], none⟩,
     ⟨some 5, .bin .ne, [.t 4, .k (.i 0)], none⟩,
     ⟨some 6, .move, [.t 5], none⟩,
     ⟨some 7, .faddr 0, [.t 1], some (6, true)⟩,
     ⟨some 8, .load none false, [.t 7], some (6, true)⟩,
     ⟨some 9, .bin .ne, [.t 8, .k (.i 5)], some (6, true)⟩,
     ⟨some 10, .pick, [.t 6, .t 9, .k (.b false)], none⟩,
     ⟨some 11, .move, [.t 10], none⟩,
     ⟨some 12, .faddr 0, [.t 1], some (11, true)⟩,
     ⟨some 13, .load none false, [.t 12], some (11, true)⟩,
     ⟨some 14, .bin .ne, [.t 13, .k (.i 6)], some (11, true)⟩,
     ⟨some 15, .pick, [.t 11, .t 14, .k (.b false)], none⟩,
     ⟨some 16, .move, [.t 15], none⟩,
     ⟨some 17, .faddr 0, [.t 1], some (16, true)⟩,
     ⟨some 18, .load none false, [.t 17], some (16, true)⟩,
     ⟨some 19, .bin .eq, [.t 18, .k (.i 7)], some (16, true)⟩,
     ⟨some 20, .move, [.t 19], some (16, true)⟩,
     ⟨some 21, .faddr 1, [.t 1], some (20, true)⟩,
     ⟨some 22, .load none false, [.t 21], some (20, true)⟩,
     ⟨some 23, .faddr 2, [.t 1], some (20, true)⟩,
     ⟨some 24, .load none false, [.t 23], some (20, true)⟩,
     ⟨some 25, .bin .eq, [.t 22, .t 24], some (20, true)⟩,
     ⟨some 26, .pick, [.t 20, .t 25, .k (.b false)], some (16, true)⟩,
     ⟨some 27, .not, [.t 26], some (16, true)⟩,
     ⟨some 28, .pick, [.t 16, .t 27, .k (.b false)], none⟩,
     ⟨some 2, .move, [.t 28], none⟩] [2] [])
   .ret))
def a52 : AF := ⟨c52, [.tmp 2]⟩
def b28l0 : AC :=
 (.seq
  (.seq
   (.reg [] [⟨some 10, .move, [.t 3], none⟩,
     ⟨some 11, .faddr 0, [.t 1], none⟩,
     ⟨some 12, .load none false, [.t 11], none⟩,
     ⟨some 13, .len, [.t 12], none⟩,
     ⟨some 14, .bin .lt, [.t 10, .t 13], none⟩] [1, 3, 14] [1])
   (.cond (.t 14)
    .skip
    (.exit 0)))
  (.seq
   (.block 1
    (.seq
     (.reg [] [⟨some 17, .faddr 0, [.t 1], none⟩,
       ⟨some 18, .load none false, [.t 17], none⟩,
       ⟨some 19, .move, [.t 3], none⟩,
       ⟨some 20, .iaddr 1, [.t 18, .t 19], none⟩,
       ⟨some 21, .load none false, [.t 20], none⟩,
       ⟨some 22, .call [] false, [.f 36, .t 21, .k (.i 0), .k (.i 2)], none⟩,
       ⟨some 23, .not, [.t 22], none⟩] [1, 3, 23] [1])
     (.cond (.t 23)
      (.seq
       (.reg [] [⟨some 2, .move, [.k (.b false)], none⟩] [2] [])
       .ret)
      .skip)))
   (.reg [] [⟨some 15, .move, [.t 3], none⟩,
     ⟨some 16, .bin .add, [.t 15, .k (.i 1)], none⟩,
     ⟨some 3, .move, [.t 16], none⟩] [1, 3] [1])))
def c28l0 : AC := b28l0
theorem r28l0 (call lp s) : run call lp c28l0 s = run call lp b28l0 s := rfl
def b28l1 : AC :=
 (.seq
  (.seq
   (.reg [] [⟨some 51, .move, [.t 5], none⟩,
     ⟨some 52, .bin .lt, [.t 51, .k (.i 30)], none⟩] [1, 4, 5, 52] [1])
   (.cond (.t 52)
    .skip
    (.exit 4)))
  (.seq
   (.block 5
    (.seq
     (.reg [] [⟨some 55, .faddr 1, [.t 1], none⟩,
       ⟨some 56, .load none false, [.t 55], none⟩,
       ⟨some 57, .move, [.t 4], none⟩,
       ⟨some 58, .iaddr 4, [.t 56, .t 57], none⟩,
       ⟨some 59, .load (some 4) false, [.t 58], none⟩,
       ⟨some 60, .move, [.t 5], none⟩,
       ⟨some 61, .call [] false, [.f 46, .t 59, .t 60], none⟩] [1, 4, 5, 61] [1])
     (.cond (.t 61)
      (.seq
       (.reg [] [⟨some 2, .move, [.k (.b false)], none⟩] [2] [])
       .ret)
      .skip)))
   (.reg [] [⟨some 53, .move, [.t 5], none⟩,
     ⟨some 54, .bin .add, [.t 53, .k (.i 1)], none⟩,
     ⟨some 5, .move, [.t 54], none⟩] [1, 4, 5] [1])))
def c28l1 : AC := b28l1
theorem r28l1 (call lp s) : run call lp c28l1 s = run call lp b28l1 s := rfl
def b28l2 : AC :=
 (.seq
  (.seq
   (.reg [] [⟨some 24, .move, [.t 4], none⟩,
     ⟨some 25, .faddr 1, [.t 1], none⟩,
     ⟨some 26, .load none false, [.t 25], none⟩,
     ⟨some 27, .len, [.t 26], none⟩,
     ⟨some 28, .bin .lt, [.t 24, .t 27], none⟩] [1, 4, 28] [1])
   (.cond (.t 28)
    .skip
    (.exit 2)))
  (.seq
   (.block 3
    (.seq
     (.seq
      (.reg [] [⟨some 31, .faddr 1, [.t 1], none⟩,
        ⟨some 32, .load none false, [.t 31], none⟩,
        ⟨some 33, .move, [.t 4], none⟩,
        ⟨some 34, .iaddr 4, [.t 32, .t 33], none⟩,
        ⟨some 35, .load (some 4) false, [.t 34], none⟩,
        ⟨some 36, .call [] false, [.f 10, .t 35], none⟩,
        ⟨some 37, .not, [.t 36], none⟩,
        ⟨some 38, .move, [.t 37], none⟩,
        ⟨some 39, .faddr 1, [.t 1], some (38, false)⟩,
        ⟨some 40, .load none false, [.t 39], some (38, false)⟩,
        ⟨some 41, .move, [.t 4], some (38, false)⟩,
        ⟨some 42, .iaddr 4, [.t 40, .t 41], some (38, false)⟩,
        ⟨some 43, .load (some 4) false, [.t 42], some (38, false)⟩,
        ⟨some 44, .call [] false, [.f 52, .t 43], some (38, false)⟩,
        ⟨some 45, .not, [.t 44], some (38, false)⟩,
        ⟨some 46, .pick, [.t 38, .k (.b true), .t 45], none⟩] [1, 4, 46] [1])
      (.cond (.t 46)
       (.seq
        (.reg [] [⟨some 2, .move, [.k (.b false)], none⟩] [2] [])
        .ret)
       .skip))
     (.seq
      (.reg [] [⟨some 47, .faddr 0, [.t 1], none⟩,
        ⟨some 48, .load none false, [.t 47], none⟩,
        ⟨some 49, .len, [.t 48], none⟩,
        ⟨some 50, .bin .add, [.k (.i 6), .t 49], none⟩,
        ⟨some 5, .move, [.t 50], none⟩] [1, 4, 5] [1])
      (.block 4
       (.loop [1, 4, 5] [1] c28l1)))))
   (.reg [] [⟨some 29, .move, [.t 4], none⟩,
     ⟨some 30, .bin .add, [.t 29, .k (.i 1)], none⟩,
     ⟨some 4, .move, [.t 30], none⟩] [1, 4] [1])))
def c28l2 : AC := b28l2
theorem r28l2 (call lp s) : run call lp c28l2 s = run call lp b28l2 s := rfl
/-- spec.PoolOk -/
def c28 : AC :=
 (.seq
  (.reg [] [⟨some 1, .box, [.t 0], none⟩,
    ⟨some 2, .move, [.k (.b false)], none⟩] [1] [1])
  (.seq
   (.seq
    (.reg [] [⟨some 6, .faddr 0, [.t 1], none⟩,
      ⟨some 7, .load none false, [.t 6], none⟩,
      ⟨some 8, .len, [.t 7], none⟩,
      ⟨some 9, .bin .gt, [.t 8, .k (.i 4)], none⟩] [1, 9] [1])
    (.cond (.t 9)
     (.seq
      (.reg [] [⟨some 2, .move, [.k (.b false)], none⟩] [2] [])
      .ret)
     .skip))
   (.seq
    (.seq
     (.reg [] [⟨some 3, .move, [.k (.i 0)], none⟩] [1, 3] [1])
     (.block 0
      (.loop [1, 3] [1] c28l0)))
    (.seq
     (.seq
      (.reg [] [⟨some 4, .move, [.k (.i 0)], none⟩] [1, 4] [1])
      (.block 2
       (.loop [1, 4] [1] c28l2)))
     (.seq
      (.reg [] [⟨some 2, .move, [.k (.b true)], none⟩] [2] [])
      .ret)))))
def a28 : AF := ⟨c28, [.tmp 2]⟩
def b55l0 : AC :=
 (.seq
  (.reg [] [⟨some 40, .bin .lt, [.t 39, .k (.i 30)], none⟩] [1, 38, 39, 40] [])
  (.seq
   (.cond (.t 40)
    .skip
    (.exit 0))
   (.seq
    (.block 1
     (.seq
      (.reg [] [⟨some 41, .move, [.t 39], none⟩,
        ⟨some 42, .idx none 1 30, [.t 38, .t 39], none⟩,
        ⟨some 5, .move, [.t 41], none⟩,
        ⟨some 6, .move, [.t 42], none⟩] [1, 5, 6, 38, 39] [])
      (.seq
       (.reg [] [⟨some 43, .move, [.t 6], none⟩,
         ⟨some 44, .move, [.t 43], none⟩,
         ⟨some 45, .move, [.t 5], some (44, true)⟩,
         ⟨some 46, .move, [.t 1], some (44, true)⟩,
         ⟨some 47, .bin .add, [.k (.i 6), .t 46], some (44, true)⟩,
         ⟨some 48, .bin .ge, [.t 45, .t 47], some (44, true)⟩,
         ⟨some 49, .pick, [.t 44, .t 48, .k (.b false)], none⟩] [1, 38, 39, 49] [])
       (.cond (.t 49)
        (.seq
         (.reg [] [⟨some 4, .move, [.k (.b false)], none⟩] [4] [])
         .ret)
        .skip))))
    (.reg [] [⟨some 50, .bin .add, [.t 39, .k (.i 1)], none⟩,
      ⟨some 39, .move, [.t 50], none⟩] [1, 38, 39] []))))
def c55l0 : AC := b55l0
theorem r55l0 (call lp s) : run call lp c55l0 s = run call lp b55l0 s := rfl
/-- impl.memberOk -/
def c55 : AC :=
 (.seq
  (.reg [] [⟨some 2, .box, [.t 0], none⟩,
    ⟨some 4, .move, [.k (.b false)], none⟩] [1, 2] [2])
  (.seq
   (.seq
    (.reg [] [⟨some 7, .load (some 4) false, [.t 2], none⟩,
      ⟨some 8, .call [] false, [.f 12, .t 7], none⟩,
      ⟨some 9, .not, [.t 8], none⟩,
      ⟨some 10, .move, [.t 9], none⟩,
      ⟨some 11, .faddr 0, [.t 2], some (10, false)⟩,
      ⟨some 12, .load none false, [.t 11], some (10, false)⟩,
      ⟨some 13, .bin .eq, [.t 12, .k (.i 0)], some (10, false)⟩,
      ⟨some 14, .pick, [.t 10, .k (.b true), .t 13], none⟩,
      ⟨some 15, .move, [.t 14], none⟩,
      ⟨some 16, .faddr 0, [.t 2], some (15, false)⟩,
      ⟨some 17, .load none false, [.t 16], some (15, false)⟩,
      ⟨some 18, .bin .eq, [.t 17, .k (.i 5)], some (15, false)⟩,
      ⟨some 19, .pick, [.t 15, .k (.b true), .t 18], none⟩,
      ⟨some 20, .move, [.t 19], none⟩,
      ⟨some 21, .faddr 0, [.t 2], some (20, false)⟩,
      ⟨some 22, .load none false, [.t 21], some (20, false)⟩,
      ⟨some 23, .bin .eq, [.t 22, .k (.i 6)], some (20, false)⟩,
      ⟨some 24, .pick, [.t 20, .k (.b true), .t 23], none⟩,
      ⟨some 25, .move, [.t 24], none⟩,
      ⟨some 26, .faddr 0, [.t 2], some (25, false)⟩,
      ⟨some 27, .load none false, [.t 26], some (25, false)⟩,
      ⟨some 28, .bin .eq, [.t 27, .k (.i 7)], some (25, false)⟩,
      ⟨some 29, .move, [.t 28], some (25, false)⟩,
      ⟨some 30, .faddr 1, [.t 2], some (29, true)⟩,
      ⟨some 31, .load none false, [.t 30], some (29, true)⟩,
      ⟨some 32, .faddr 2, [.t 2], some (29, true)⟩,
      ⟨some 33, .load none false, [.t 32], some (29, true)⟩,
      ⟨some 34, .bin .eq, [.t 31, .t 33], some (29, true)⟩,
      ⟨some 35, .pick, [.t 29, .t 34, .k (.b false)], some (25, false)⟩,
      ⟨some 36, .pick, [.t 25, .k (.b true), .t 35], none⟩] [1, 2, 36] [2])
    (.cond (.t 36)
     (.seq
      (.reg [] [⟨some 4, .move, [.k (.b false)], none⟩] [4] [])
      .ret)
     .skip))
   (.seq
    (.seq
     (.reg [] [⟨some 37, .load (some 4) false, [.t 2], none⟩,
       ⟨some 38, .call [] false, [.f 47, .t 37], none⟩,
       ⟨some 39, .move, [.k (.i 0)], none⟩] [1, 38, 39] [])
     (.block 0
      (.loop [1, 38, 39] [] c55l0)))
    (.seq
     (.reg [] [⟨some 4, .move, [.k (.b true)], none⟩] [4] [])
     .ret))))
def a55 : AF := ⟨c55, [.tmp 4]⟩
/-- impl.PoolOk$1 -/
def c54 : AC :=
 (.seq
  (.reg [] [⟨some 2, .box, [.t 0], none⟩,
    ⟨some 3, .move, [.k (.b false)], none⟩] [1, 2] [2])
  (.seq
   (.reg [] [⟨some 4, .load (some 4) false, [.t 2], none⟩,
     ⟨some 5, .faddr 0, [.t 1], none⟩,
     ⟨some 6, .load none false, [.t 5], none⟩,
     ⟨some 7, .len, [.t 6], none⟩,
     ⟨some 8, .call [] false, [.f 55, .t 4, .t 7], none⟩,
     ⟨some 9, .not, [.t 8], none⟩,
     ⟨some 3, .move, [.t 9], none⟩] [3] [])
   .ret))
def a54 : AF := ⟨c54, [.tmp 3]⟩
def b30l0 : AC :=
 (.seq
  (.reg [] [⟨some 13, .bin .lt, [.t 12, .t 11], none⟩] [1, 10, 11, 12, 13] [1])
  (.seq
   (.cond (.t 13)
    .skip
    (.exit 0))
   (.seq
    (.block 1
     (.seq
      (.reg [] [⟨some 14, .iaddr 1, [.t 10, .t 12], none⟩,
        ⟨some 15, .load none false, [.t 14], none⟩,
        ⟨some 4, .move, [.t 15], none⟩] [1, 4, 10, 11, 12] [1])
      (.seq
       (.reg [] [⟨some 16, .move, [.t 4], none⟩,
         ⟨some 17, .bin .lt, [.t 16, .k (.i 0)], none⟩,
         ⟨some 18, .move, [.t 17], none⟩,
         ⟨some 19, .move, [.t 4], some (18, false)⟩,
         ⟨some 20, .bin .ge, [.t 19, .k (.i 3)], some (18, false)⟩,
         ⟨some 21, .pick, [.t 18, .k (.b true), .t 20], none⟩] [1, 10, 11, 12, 21] [1])
       (.cond (.t 21)
        (.seq
         (.reg [] [⟨some 2, .move, [.k (.b false)], none⟩] [2] [])
         .ret)
        .skip))))
    (.reg [] [⟨some 22, .bin .add, [.t 12, .k (.i 1)], none⟩,
      ⟨some 12, .move, [.t 22], none⟩] [1, 10, 11, 12] [1]))))
def c30l0 : AC := b30l0
theorem r30l0 (call lp s) : run call lp c30l0 s = run call lp b30l0 s := rfl
/-- impl.PoolOk -/
def c30 : AC :=
 (.seq
  (.reg [] [⟨some 1, .box, [.t 0], none⟩,
    ⟨some 2, .move, [.k (.b false)], none⟩] [1] [1])
  (.seq
   (.seq
    (.reg [] [⟨some 5, .faddr 0, [.t 1], none⟩,
      ⟨some 6, .load none false, [.t 5], none⟩,
      ⟨some 7, .len, [.t 6], none⟩,
      ⟨some 8, .bin .gt, [.t 7, .k (.i 4)], none⟩] [1, 8] [1])
    (.cond (.t 8)
     (.seq
      (.reg [] [⟨some 2, .move, [.k (.b false)], none⟩] [2] [])
      .ret)
     .skip))
   (.seq
    (.seq
     (.reg [] [⟨some 9, .faddr 0, [.t 1], none⟩,
       ⟨some 10, .load none false, [.t 9], none⟩,
       ⟨some 11, .len, [.t 10], none⟩,
       ⟨some 12, .move, [.k (.i 0)], none⟩] [1, 10, 11, 12] [1])
     (.block 0
      (.loop [1, 10, 11, 12] [1] c30l0)))
    (.seq
     (.reg [] [⟨some 23, .faddr 1, [.t 1], none⟩,
       ⟨some 24, .load none false, [.t 23], none⟩,
       ⟨some 25, .mkfunc 54, [.t 1], none⟩,
       ⟨some 26, .call [] false, [.f 53, .t 24, .t 25], none⟩,
       ⟨some 27, .not, [.t 26], none⟩,
       ⟨some 2, .move, [.t 27], none⟩] [2] [])
     .ret))))
def a30 : AF := ⟨c30, [.tmp 2]⟩
/-- laws.eqPool -/
def c31 : AC :=
 (.seq
  (.reg [] [⟨some 2, .box, [.t 0], none⟩,
    ⟨some 3, .box, [.t 1], none⟩,
    ⟨some 4, .move, [.k (.b false)], none⟩] [2, 3] [2, 3])
  (.seq
   (.seq
    (.reg [] [⟨some 5, .faddr 0, [.t 2], none⟩,
      ⟨some 6, .load none false, [.t 5], none⟩,
      ⟨some 7, .faddr 0, [.t 3], none⟩,
      ⟨some 8, .load none false, [.t 7], none⟩,
      ⟨some 9, .call [] false, [.f 17, .t 6, .t 8], none⟩,
      ⟨some 10, .not, [.t 9], none⟩] [2, 3, 10] [2, 3])
    (.cond (.t 10)
     (.seq
      (.reg [] [⟨some 4, .move, [.k (.b false)], none⟩] [4] [])
      .ret)
     .skip))
   (.seq
    (.seq
     (.reg [] [⟨some 11, .faddr 1, [.t 2], none⟩,
       ⟨some 12, .load none false, [.t 11], none⟩,
       ⟨some 13, .faddr 1, [.t 3], none⟩,
       ⟨some 14, .load none false, [.t 13], none⟩,
       ⟨some 15, .call [] false, [.f 41, .t 12, .t 14], none⟩,
       ⟨some 16, .not, [.t 15], none⟩] [16] [])
     (.cond (.t 16)
      (.seq
       (.reg [] [⟨some 4, .move, [.k (.b false)], none⟩] [4] [])
       .ret)
      .skip))
    (.seq
     (.reg [] [⟨some 4, .move, [.k (.b true)], none⟩] [4] [])
     .ret))))
def a31 : AF := ⟨c31, [.tmp 4]⟩
/-- laws.FnExactPoolOk -/
def c7 : AC :=
 (.seq
  (.reg [] [⟨some 1, .box, [.t 0], none⟩,
    ⟨some 2, .move, [.k (.b false)], none⟩] [1] [1])
  (.seq
   (.reg [] [⟨some 3, .move, [.k (.i 1048576)], none⟩] [1, 3] [1])
   (.seq
    (.reg [] [⟨some 7, .load (some 2) false, [.t 1], none⟩,
      ⟨some 8, .move, [.t 3], none⟩,
      ⟨some 9, .call [] false, [.f 27, .t 7, .t 8], none⟩,
      ⟨some 3, .move, [.t 9], none⟩] [1, 3] [1])
    (.seq
     (.seq
      (.reg [] [⟨some 10, .move, [.t 3], none⟩,
        ⟨some 11, .bin .lt, [.t 10, .k (.i 0)], none⟩] [1, 11] [1])
      (.cond (.t 11)
       (.seq
        (.reg [] [⟨some 2, .move, [.k (.b true)], none⟩] [2] [])
        .ret)
       .skip))
     (.seq
      (.reg [] [⟨some 12, .load (some 2) false, [.t 1], none⟩,
        ⟨some 13, .call [] false, [.f 29, .t 12], none⟩,
        ⟨some 14, .call [] false, [.f 28, .t 13], none⟩,
        ⟨some 4, .move, [.t 14], none⟩] [1, 4] [1])
      (.seq
       (.reg [] [⟨some 15, .load (some 2) false, [.t 1], none⟩,
         ⟨some 16, .call [] false, [.f 29, .t 15], none⟩,
         ⟨some 5, .alloc [.nils, .nils], [], none⟩,
         ⟨none, .store 2 true, [.t 5, .t 16], none⟩] [1, 4, 5] [1, 5, 16, 1016])
       (.seq
        (.reg [] [⟨some 17, .load (some 2) false, [.t 5], none⟩,
          ⟨some 18, .call [] false, [.f 30, .t 17], none⟩,
          ⟨some 6, .move, [.t 18], none⟩] [1, 4, 5, 6] [1, 5, 16, 1016])
        (.seq
         (.seq
          (.reg [] [⟨some 19, .move, [.t 6], none⟩,
            ⟨some 20, .move, [.t 4], none⟩,
            ⟨some 21, .bne, [.t 19, .t 20], none⟩] [1, 5, 21] [1, 5, 16, 1016])
          (.cond (.t 21)
           (.seq
            (.reg [] [⟨some 2, .move, [.k (.b false)], none⟩] [2] [])
            .ret)
           .skip))
         (.seq
          (.seq
           (.reg [0, 1, 2, 4, 5] [⟨some 22, .load (some 2) false, [.t 5], none⟩,
             ⟨some 23, .load (some 2) false, [.t 1], none⟩,
             ⟨some 24, .call [] false, [.f 29, .t 23], none⟩,
             ⟨none, .chk (.load (some 2) false), [.t 22, .t 5], none⟩,
             ⟨some 25, .call [] false, [.f 31, .t 22, .t 24], none⟩,
             ⟨some 26, .not, [.t 25], none⟩] [26] [])
           (.cond (.t 26)
            (.seq
             (.reg [] [⟨some 2, .move, [.k (.b false)], none⟩] [2] [])
             .ret)
            .skip))
          (.seq
           (.reg [] [⟨some 2, .move, [.k (.b true)], none⟩] [2] [])
           .ret))))))))))
def a7 : AF := ⟨c7, [.tmp 2]⟩
def b74l0 : AC :=
 (.seq
  (.seq
   (.reg [] [⟨some 8, .move, [.t 7], none⟩,
     ⟨some 9, .move, [.t 1], none⟩,
     ⟨some 10, .bin .eq, [.t 8, .t 9], none⟩,
     ⟨some 11, .move, [.t 10], none⟩,
     ⟨some 12, .move, [.t 7], some (11, false)⟩,
     ⟨some 13, .move, [.t 2], some (11, false)⟩,
     ⟨some 14, .bin .eq, [.t 12, .t 13], some (11, false)⟩,
     ⟨some 15, .pick, [.t 11, .k (.b true), .t 14], none⟩,
     ⟨some 16, .move, [.t 15], none⟩,
     ⟨some 17, .load (some 4) false, [.t 3], some (16, false)⟩,
     ⟨some 18, .move, [.t 7], some (16, false)⟩,
     ⟨some 19, .call [] false, [.f 46, .t 17, .t 18], some (16, false)⟩,
     ⟨some 20, .pick, [.t 16, .k (.b true), .t 19], none⟩] [1, 2, 3, 7, 20] [3])
   (.cond (.t 20)
    .skip
    (.exit 0)))
  (.block 1
   (.reg [] [⟨some 21, .move, [.t 7], none⟩,
     ⟨some 22, .bin .add, [.t 21, .k (.i 1)], none⟩,
     ⟨some 7, .move, [.t 22], none⟩] [1, 2, 3, 7] [3])))
def c74l0 : AC := b74l0
theorem r74l0 (call lp s) : run call lp c74l0 s = run call lp b74l0 s := rfl
/-- spec.l13Fresh -/
def c74 : AC :=
 (.seq
  (.reg [] [⟨some 3, .box, [.t 0], none⟩,
    ⟨some 6, .move, [.k (.i 0)], none⟩] [1, 2, 3] [3])
  (.seq
   (.reg [] [⟨some 7, .move, [.k (.i 0)], none⟩] [1, 2, 3, 7] [3])
   (.seq
    (.block 0
     (.loop [1, 2, 3, 7] [3] c74l0))
    (.seq
     (.reg [] [⟨some 23, .move, [.t 7], none⟩,
       ⟨some 6, .move, [.t 23], none⟩] [6] [])
     .ret))))
def a74 : AF := ⟨c74, [.tmp 6]⟩
def b57l0 : AC :=
 (.seq
  (.seq
   (.reg [] [⟨some 107, .move, [.t 11], none⟩,
     ⟨some 108, .move, [.t 8], none⟩,
     ⟨some 109, .len, [.t 108], none⟩,
     ⟨some 110, .bin .lt, [.t 107, .t 109], none⟩] [1, 2, 6, 7, 8, 11, 110] [6, 7, 99, 123])
   (.cond (.t 110)
    .skip
    (.exit 0)))
  (.seq
   (.block 1
    (.reg [0, 1, 2, 3, 4, 5, 6, 7, 8, 11, 14, 15, 16] [⟨some 113, .faddr 3, [.t 7], none⟩,
      ⟨some 114, .load none false, [.t 113], none⟩,
      ⟨some 115, .move, [.t 8], none⟩,
      ⟨some 116, .move, [.t 11], none⟩,
      ⟨some 117, .iaddr 4, [.t 115, .t 116], none⟩,
      ⟨some 118, .load (some 4) false, [.t 117], none⟩,
      ⟨some 119, .move, [.t 1], none⟩,
      ⟨some 120, .move, [.t 2], none⟩,
      ⟨some 121, .call [] false, [.f 57, .t 118, .t 119, .t 120], none⟩,
      ⟨none, .chk (.faddr 3), [.t 113, .t 7], none⟩,
      ⟨none, .chk (.load none false), [.t 114, .t 113], none⟩,
      ⟨some 122, .bslice 4 true, [.t 121], none⟩,
      ⟨none, .chk (.faddr 3), [.t 113, .t 7], none⟩,
      ⟨none, .chk (.load none false), [.t 114, .t 113], none⟩,
      ⟨some 123, .append 4 true, [.t 114, .t 122], none⟩,
      ⟨some 124, .faddr 3, [.t 7], none⟩,
      ⟨none, .store 1 true, [.t 124, .t 123], none⟩] [1, 2, 6, 7, 8, 11] [6, 7, 99, 123]))
   (.reg [] [⟨some 111, .move, [.t 11], none⟩,
     ⟨some 112, .bin .add, [.t 111, .k (.i 1)], none⟩,
     ⟨some 11, .move, [.t 112], none⟩] [1, 2, 6, 7, 8, 11] [6, 7, 99, 123])))
def c57l0 : AC := b57l0
theorem r57l0 (call lp s) : run call lp c57l0 s = run call lp b57l0 s := rfl
/-- spec.l13Put -/
def c57 : AC :=
 (.seq
  (.reg [] [⟨some 3, .box, [.t 0], none⟩,
    ⟨some 6, .alloc [.i 0, .i 0, .i 0, .nils], [], none⟩] [1, 2, 3, 6] [3, 6, 123])
  (.seq
   (.reg [] [⟨some 12, .faddr 0, [.t 3], none⟩,
     ⟨some 13, .load none false, [.t 12], none⟩,
     ⟨some 14, .faddr 1, [.t 3], none⟩,
     ⟨some 15, .load none false, [.t 14], none⟩,
     ⟨some 16, .faddr 2, [.t 3], none⟩,
     ⟨some 17, .load none false, [.t 16], none⟩,
     ⟨some 18, .build [.i 0, .i 0, .i 0, .nils] [(0, 1), (1, 1), (2, 1)], [.t 13, .t 15, .t 17], none⟩,
     ⟨some 7, .alloc [.i 0, .i 0, .i 0, .nils], [], none⟩,
     ⟨none, .store 4 true, [.t 7, .t 18], none⟩] [1, 2, 3, 6, 7] [3, 6, 7, 123])
   (.seq
    (.reg [] [⟨some 19, .faddr 3, [.t 3], none⟩,
      ⟨some 20, .load none false, [.t 19], none⟩,
      ⟨some 8, .move, [.t 20], none⟩] [1, 2, 3, 6, 7, 8] [3, 6, 7, 99, 123])
    (.seq
     (.seq
      (.reg [] [⟨some 21, .faddr 0, [.t 3], none⟩,
        ⟨some 22, .load none false, [.t 21], none⟩,
        ⟨some 23, .bin .eq, [.t 22, .k (.i 1)], none⟩,
        ⟨some 24, .move, [.t 23], none⟩,
        ⟨some 25, .faddr 0, [.t 3], some (24, false)⟩,
        ⟨some 26, .load none false, [.t 25], some (24, false)⟩,
        ⟨some 27, .bin .eq, [.t 26, .k (.i 7)], some (24, false)⟩,
        ⟨some 28, .pick, [.t 24, .k (.b true), .t 27], none⟩,
        ⟨some 29, .move, [.t 28], none⟩,
        ⟨some 30, .faddr 0, [.t 3], some (29, false)⟩,
        ⟨some 31, .load none false, [.t 30], some (29, false)⟩,
        ⟨some 32, .bin .eq, [.t 31, .k (.i 2)], some (29, false)⟩,
        ⟨some 33, .pick, [.t 29, .k (.b true), .t 32], none⟩,
        ⟨some 34, .move, [.t 33], none⟩,
        ⟨some 35, .faddr 1, [.t 3], some (34, true)⟩,
        ⟨some 36, .load none false, [.t 35], some (34, true)⟩,
        ⟨some 37, .move, [.t 1], some (34, true)⟩,
        ⟨some 38, .bin .eq, [.t 36, .t 37], some (34, true)⟩,
        ⟨some 39, .pick, [.t 34, .t 38, .k (.b false)], none⟩] [1, 2, 3, 6, 7, 8, 39] [3, 6, 7, 99, 123])
      (.cond (.t 39)
       (.reg [] [⟨some 40, .move, [.t 2], none⟩,
         ⟨some 41, .faddr 1, [.t 7], none⟩,
         ⟨none, .store 1 true, [.t 41, .t 40], none⟩] [1, 2, 3, 6, 7, 8] [3, 6, 7, 99, 123])
       .skip))
     (.seq
      (.seq
       (.reg [] [⟨some 42, .faddr 0, [.t 3], none⟩,
         ⟨some 43, .load none false, [.t 42], none⟩,
         ⟨some 44, .bin .eq, [.t 43, .k (.i 1)], none⟩,
         ⟨some 45, .move, [.t 44], none⟩,
         ⟨some 46, .faddr 0, [.t 3], some (45, false)⟩,
         ⟨some 47, .load none false, [.t 46], some (45, false)⟩,
         ⟨some 48, .bin .eq, [.t 47, .k (.i 7)], some (45, false)⟩,
         ⟨some 49, .pick, [.t 45, .k (.b true), .t 48], none⟩,
         ⟨some 50, .move, [.t 49], none⟩,
         ⟨some 51, .faddr 2, [.t 3], some (50, true)⟩,
         ⟨some 52, .load none false, [.t 51], some (50, true)⟩,
         ⟨some 53, .move, [.t 1], some (50, true)⟩,
         ⟨some 54, .bin .eq, [.t 52, .t 53], some (50, true)⟩,
         ⟨some 55, .pick, [.t 50, .t 54, .k (.b false)], none⟩] [1, 2, 3, 6, 7, 8, 55] [3, 6, 7, 99, 123])
       (.cond (.t 55)
        (.reg [] [⟨some 56, .move, [.t 2], none⟩,
          ⟨some 57, .faddr 2, [.t 7], none⟩,
          ⟨none, .store 1 true, [.t 57, .t 56], none⟩] [1, 2, 3, 6, 7, 8] [3, 6, 7, 99, 123])
        .skip))
      (.seq
       (.reg [] [⟨some 58, .load (some 4) false, [.t 3], none⟩,
         ⟨some 59, .call [] false, [.f 67, .t 58], none⟩,
         ⟨some 9, .move, [.t 59], none⟩] [1, 2, 3, 6, 7, 8, 9] [3, 6, 7, 99, 123])
       (.seq
        (.seq
         (.reg [] [⟨some 60, .move, [.t 9], none⟩,
           ⟨some 61, .bin .ge, [.t 60, .k (.i 0)], none⟩,
           ⟨some 62, .move, [.t 61], none⟩,
           ⟨some 63, .move, [.t 9], some (62, true)⟩,
           ⟨some 64, .move, [.t 1], some (62, true)⟩,
           ⟨some 65, .bin .eq, [.t 63, .t 64], some (62, true)⟩,
           ⟨some 66, .pick, [.t 62, .t 65, .k (.b false)], none⟩] [1, 2, 3, 6, 7, 8, 9, 66] [3, 6, 7, 99, 123])
         (.cond (.t 66)
          (.reg [] [⟨some 67, .move, [.t 2], none⟩,
            ⟨some 1, .move, [.t 67], none⟩] [1, 2, 3, 6, 7, 8, 9] [3, 6, 7, 99, 123])
          .skip))
        (.seq
         (.seq
          (.reg [] [⟨some 68, .move, [.t 9], none⟩,
            ⟨some 69, .bin .ge, [.t 68, .k (.i 0)], none⟩,
            ⟨some 70, .move, [.t 69], none⟩,
            ⟨some 71, .move, [.t 9], some (70, true)⟩,
            ⟨some 72, .move, [.t 2], some (70, true)⟩,
            ⟨some 73, .bin .eq, [.t 71, .t 72], some (70, true)⟩,
            ⟨some 74, .pick, [.t 70, .t 73, .k (.b false)], none⟩,
            ⟨some 75, .move, [.t 74], none⟩,
            ⟨some 76, .move, [.t 1], some (75, true)⟩,
            ⟨some 77, .move, [.t 2], some (75, true)⟩,
            ⟨some 78, .bin .ne, [.t 76, .t 77], some (75, true)⟩,
            ⟨some 79, .pick, [.t 75, .t 78, .k (.b false)], none⟩,
            ⟨some 80, .move, [.t 79], none⟩,
            ⟨some 81, .move, [.t 8], some (80, true)⟩,
            ⟨some 82, .iaddr 4, [.t 81, .k (.i 0)], some (80, true)⟩,
            ⟨some 83, .load (some 4) false, [.t 82], some (80, true)⟩,
            ⟨some 84, .move, [.t 1], some (80, true)⟩,
            ⟨some 85, .call [] false, [.f 46, .t 83, .t 84], some (80, true)⟩,
            ⟨some 86, .pick, [.t 80, .t 85, .k (.b false)], none⟩] [1, 2, 3, 6, 7, 8, 9, 86] [3, 6, 7, 99, 123])
          (.cond (.t 86)
           (.seq
            (.reg [] [⟨some 87, .move, [.t 8], none⟩,
              ⟨some 88, .iaddr 4, [.t 87, .k (.i 0)], none⟩,
              ⟨some 89, .load (some 4) false, [.t 88], none⟩,
              ⟨some 90, .move, [.t 1], none⟩,
              ⟨some 91, .move, [.t 2], none⟩,
              ⟨some 92, .call [] false, [.f 74, .t 89, .t 90, .t 91], none⟩,
              ⟨some 10, .move, [.t 92], none⟩] [1, 2, 3, 6, 7, 8, 9, 10] [3, 6, 7, 99, 123])
            (.seq
             (.reg [] [⟨some 93, .move, [.t 8], none⟩,
               ⟨some 94, .iaddr 4, [.t 93, .k (.i 0)], none⟩,
               ⟨some 95, .load (some 4) false, [.t 94], none⟩,
               ⟨some 96, .move, [.t 9], none⟩,
               ⟨some 97, .move, [.t 10], none⟩,
               ⟨some 98, .call [] false, [.f 57, .t 95, .t 96, .t 97], none⟩,
               ⟨some 99, .bslice 4 false, [.t 98], none⟩,
               ⟨some 8, .move, [.t 99], none⟩] [1, 2, 3, 6, 7, 8, 10] [3, 6, 7, 99, 123])
             (.seq
              (.reg [] [⟨some 100, .faddr 0, [.t 3], none⟩,
                ⟨some 101, .load none false, [.t 100], none⟩,
                ⟨some 102, .bin .eq, [.t 101, .k (.i 2)], none⟩] [1, 2, 6, 7, 8, 10, 102] [6, 7, 99, 123])
              (.cond (.t 102)
               (.reg [] [⟨some 103, .move, [.t 10], none⟩,
                 ⟨some 104, .faddr 2, [.t 7], none⟩,
                 ⟨none, .store 1 true, [.t 104, .t 103], none⟩] [1, 2, 6, 7, 8] [6, 7, 99, 123])
               (.reg [] [⟨some 105, .move, [.t 10], none⟩,
                 ⟨some 106, .faddr 1, [.t 7], none⟩,
                 ⟨none, .store 1 true, [.t 106, .t 105], none⟩] [1, 2, 6, 7, 8] [6, 7, 99, 123])))))
           .skip))
         (.seq
          (.seq
           (.reg [] [⟨some 11, .move, [.k (.i 0)], none⟩] [1, 2, 6, 7, 8, 11] [6, 7, 99, 123])
           (.block 0
            (.loop [1, 2, 6, 7, 8, 11] [6, 7, 99, 123] c57l0)))
          (.seq
           (.reg [] [⟨some 125, .load (some 4) false, [.t 7], none⟩,
             ⟨none, .store 4 true, [.t 6, .t 125], none⟩] [6] [6, 123])
           .ret))))))))))
def a57 : AF := ⟨c57, [.cell 6 (some 4)]⟩
/-- spec.PiPut -/
def c32 : AC :=
 (.seq
  (.reg [] [⟨some 3, .box, [.t 0], none⟩,
    ⟨some 6, .alloc [.i 0, .i 0, .i 0, .nils], [], none⟩,
    ⟨some 7, .move, [.k (.b false)], none⟩] [1, 2, 3, 6] [3, 6, 25])
  (.seq
   (.seq
    (.reg [] [⟨some 8, .load (some 4) false, [.t 3], none⟩,
      ⟨some 9, .call [] false, [.f 10, .t 8], none⟩,
      ⟨some 10, .not, [.t 9], none⟩,
      ⟨some 11, .move, [.t 10], none⟩,
      ⟨some 12, .move, [.t 1], some (11, false)⟩,
      ⟨some 13, .call [] false, [.f 56, .t 12], some (11, false)⟩,
      ⟨some 14, .not, [.t 13], some (11, false)⟩,
      ⟨some 15, .pick, [.t 11, .k (.b true), .t 14], none⟩,
      ⟨some 16, .move, [.t 15], none⟩,
      ⟨some 17, .move, [.t 2], some (16, false)⟩,
      ⟨some 18, .call [] false, [.f 56, .t 17], some (16, false)⟩,
      ⟨some 19, .not, [.t 18], some (16, false)⟩,
      ⟨some 20, .pick, [.t 16, .k (.b true), .t 19], none⟩] [1, 2, 3, 6, 20] [3, 6, 25])
    (.cond (.t 20)
     (.seq
      (.reg [] [⟨some 21, .build [.i 0, .i 0, .i 0, .nils] [], [], none⟩,
        ⟨none, .store 4 true, [.t 6, .t 21], none⟩,
        ⟨some 7, .move, [.k (.b false)], none⟩] [6, 7] [6, 25])
      .ret)
     .skip))
   (.seq
    (.reg [] [⟨some 22, .load (some 4) false, [.t 3], none⟩,
      ⟨some 23, .move, [.t 1], none⟩,
      ⟨some 24, .move, [.t 2], none⟩,
      ⟨some 25, .call [] false, [.f 57, .t 22, .t 23, .t 24], none⟩,
      ⟨none, .store 4 true, [.t 6, .t 25], none⟩,
      ⟨some 7, .move, [.k (.b true)], none⟩] [6, 7] [6, 25])
    .ret)))
def a32 : AF := ⟨c32, [.cell 6 (some 4), .tmp 7]⟩
/-- impl.putName -/
def c75 : AC :=
 (.seq
  (.reg [] [⟨some 6, .move, [.k (.i 0)], none⟩] [0, 1, 2] [])
  (.seq
   (.seq
    (.reg [] [⟨some 7, .move, [.t 0], none⟩,
      ⟨some 8, .move, [.t 1], none⟩,
      ⟨some 9, .bin .eq, [.t 7, .t 8], none⟩] [0, 2, 9] [])
    (.cond (.t 9)
     (.seq
      (.reg [] [⟨some 10, .move, [.t 2], none⟩,
        ⟨some 6, .move, [.t 10], none⟩] [6] [])
      .ret)
     .skip))
   (.seq
    (.reg [] [⟨some 11, .move, [.t 0], none⟩,
      ⟨some 6, .move, [.t 11], none⟩] [6] [])
    .ret)))
def a75 : AF := ⟨c75, [.tmp 6]⟩
def b76l0 : AC :=
 (.seq
  (.reg [] [⟨some 17, .bin .lt, [.t 16, .t 15], none⟩] [2, 3, 14, 15, 16, 17] [2, 3, 25])
  (.seq
   (.cond (.t 17)
    .skip
    (.exit 0))
   (.seq
    (.block 1
     (.seq
      (.reg [] [⟨some 18, .iaddr 4, [.t 14, .t 16], none⟩,
        ⟨some 19, .load (some 4) false, [.t 18], none⟩,
        ⟨some 5, .alloc [.i 0, .i 0, .i 0, .nils], [], none⟩,
        ⟨none, .store 4 true, [.t 5, .t 19], none⟩] [2, 3, 5, 14, 15, 16] [2, 3, 5, 25])
      (.reg [0, 1, 2, 3, 6, 9, 10, 11] [⟨some 20, .faddr 3, [.t 3], none⟩,
        ⟨some 21, .load none false, [.t 20], none⟩,
        ⟨some 22, .load (some 4) false, [.t 5], none⟩,
        ⟨some 23, .call [] false, [.f 76, .t 22], none⟩,
        ⟨none, .chk (.faddr 3), [.t 20, .t 3], none⟩,
        ⟨none, .chk (.load none false), [.t 21, .t 20], none⟩,
        ⟨some 24, .bslice 4 true, [.t 23], none⟩,
        ⟨none, .chk (.faddr 3), [.t 20, .t 3], none⟩,
        ⟨none, .chk (.load none false), [.t 21, .t 20], none⟩,
        ⟨some 25, .append 4 true, [.t 21, .t 24], none⟩,
        ⟨some 26, .faddr 3, [.t 3], none⟩,
        ⟨none, .store 1 true, [.t 26, .t 25], none⟩] [2, 3, 14, 15, 16] [2, 3, 25])))
    (.reg [] [⟨some 27, .bin .add, [.t 16, .k (.i 1)], none⟩,
      ⟨some 16, .move, [.t 27], none⟩] [2, 3, 14, 15, 16] [2, 3, 25]))))
def c76l0 : AC := b76l0
theorem r76l0 (call lp s) : run call lp c76l0 s = run call lp b76l0 s := rfl
/-- impl.copyPi -/
def c76 : AC :=
 (.seq
  (.reg [] [⟨some 1, .box, [.t 0], none⟩,
    ⟨some 2, .alloc [.i 0, .i 0, .i 0, .nils], [], none⟩] [1, 2] [1, 2, 25])
  (.seq
   (.reg [] [⟨some 6, .faddr 0, [.t 1], none⟩,
     ⟨some 7, .load none false, [.t 6], none⟩,
     ⟨some 8, .faddr 1, [.t 1], none⟩,
     ⟨some 9, .load none false, [.t 8], none⟩,
     ⟨some 10, .faddr 2, [.t 1], none⟩,
     ⟨some 11, .load none false, [.t 10], none⟩,
     ⟨some 12, .build [.i 0, .i 0, .i 0, .nils] [(0, 1), (1, 1), (2, 1)], [.t 7, .t 9, .t 11], none⟩,
     ⟨some 3, .alloc [.i 0, .i 0, .i 0, .nils], [], none⟩,
     ⟨none, .store 4 true, [.t 3, .t 12], none⟩] [1, 2, 3] [1, 2, 3, 25])
   (.seq
    (.seq
     (.reg [] [⟨some 13, .faddr 3, [.t 1], none⟩,
       ⟨some 14, .load none false, [.t 13], none⟩,
       ⟨some 15, .len, [.t 14], none⟩,
       ⟨some 16, .move, [.k (.i 0)], none⟩] [2, 3, 14, 15, 16] [2, 3, 25])
     (.block 0
      (.loop [2, 3, 14, 15, 16] [2, 3, 25] c76l0)))
    (.seq
     (.reg [] [⟨some 28, .load (some 4) false, [.t 3], none⟩,
       ⟨none, .store 4 true, [.t 2, .t 28], none⟩] [2] [2, 25])
     .ret))))
def a76 : AF := ⟨c76, [.cell 2 (some 4)]⟩
def b59l0 : AC :=
 (.seq
  (.reg [] [⟨some 54, .bin .lt, [.t 53, .t 52], none⟩] [1, 2, 6, 7, 51, 52, 53, 54] [6, 7, 64, 84, 122])
  (.seq
   (.cond (.t 54)
    .skip
    (.exit 1))
   (.seq
    (.block 2
     (.seq
      (.reg [] [⟨some 55, .iaddr 4, [.t 51, .t 53], none⟩,
        ⟨some 56, .load (some 4) false, [.t 55], none⟩,
        ⟨some 10, .alloc [.i 0, .i 0, .i 0, .nils], [], none⟩,
        ⟨none, .store 4 true, [.t 10, .t 56], none⟩] [1, 2, 6, 7, 10, 51, 52, 53] [6, 7, 10, 64, 84, 122])
      (.reg [0, 1, 2, 3, 4, 5, 8, 11, 12, 13] [⟨some 57, .faddr 3, [.t 7], none⟩,
        ⟨some 58, .load none false, [.t 57], none⟩,
        ⟨some 59, .load (some 4) false, [.t 10], none⟩,
        ⟨some 60, .move, [.t 1], none⟩,
        ⟨some 61, .move, [.t 2], none⟩,
        ⟨some 62, .call [] false, [.f 59, .t 59, .t 60, .t 61], none⟩,
        ⟨none, .chk (.faddr 3), [.t 57, .t 7], none⟩,
        ⟨none, .chk (.load none false), [.t 58, .t 57], none⟩,
        ⟨some 63, .bslice 4 true, [.t 62], none⟩,
        ⟨none, .chk (.faddr 3), [.t 57, .t 7], none⟩,
        ⟨none, .chk (.load none false), [.t 58, .t 57], none⟩,
        ⟨some 64, .append 4 true, [.t 58, .t 63], none⟩,
        ⟨some 65, .faddr 3, [.t 7], none⟩,
        ⟨none, .store 1 true, [.t 65, .t 64], none⟩] [1, 2, 6, 7, 51, 52, 53] [6, 7, 64, 84, 122])))
    (.reg [] [⟨some 66, .bin .add, [.t 53, .k (.i 1)], none⟩,
      ⟨some 53, .move, [.t 66], none⟩] [1, 2, 6, 7, 51, 52, 53] [6, 7, 64, 84, 122]))))
def c59l0 : AC := b59l0
theorem r59l0 (call lp s) : run call lp c59l0 s = run call lp b59l0 s := rfl
def b59l1 : AC :=
 (.seq
  (.seq
   (.reg [] [⟨some 92, .move, [.t 13], none⟩,
     ⟨some 93, .move, [.t 1], none⟩,
     ⟨some 94, .bin .eq, [.t 92, .t 93], none⟩,
     ⟨some 95, .move, [.t 94], none⟩,
     ⟨some 96, .move, [.t 13], some (95, false)⟩,
     ⟨some 97, .move, [.t 2], some (95, false)⟩,
     ⟨some 98, .bin .eq, [.t 96, .t 97], some (95, false)⟩,
     ⟨some 99, .pick, [.t 95, .k (.b true), .t 98], none⟩,
     ⟨some 100, .move, [.t 99], none⟩,
     ⟨some 101, .move, [.t 13], some (100, false)⟩,
     ⟨some 102, .iarr 1 30, [.t 12, .t 101], some (100, false)⟩,
     ⟨some 103, .load none false, [.t 102], some (100, false)⟩,
     ⟨some 104, .pick, [.t 100, .k (.b true), .t 103], none⟩] [1, 2, 3, 6, 7, 8, 11, 12, 13, 104] [3, 6, 7, 11, 12, 64, 84, 110, 122])
   (.cond (.t 104)
    .skip
    (.exit 3)))
  (.block 4
   (.reg [] [⟨some 105, .move, [.t 13], none⟩,
     ⟨some 106, .bin .add, [.t 105, .k (.i 1)], none⟩,
     ⟨some 13, .move, [.t 106], none⟩] [1, 2, 3, 6, 7, 8, 11, 12, 13] [3, 6, 7, 11, 12, 64, 84, 110, 122])))
def c59l1 : AC := b59l1
theorem r59l1 (call lp s) : run call lp c59l1 s = run call lp b59l1 s := rfl
/-- impl.putIn -/
def c59 : AC :=
 (.seq
  (.reg [] [⟨some 3, .box, [.t 0], none⟩,
    ⟨some 6, .alloc [.i 0, .i 0, .i 0, .nils], [], none⟩] [1, 2, 3, 6] [3, 6, 64, 84, 122])
  (.seq
   (.reg [] [⟨some 14, .faddr 0, [.t 3], none⟩,
     ⟨some 15, .load none false, [.t 14], none⟩,
     ⟨some 16, .faddr 1, [.t 3], none⟩,
     ⟨some 17, .load none false, [.t 16], none⟩,
     ⟨some 18, .faddr 2, [.t 3], none⟩,
     ⟨some 19, .load none false, [.t 18], none⟩,
     ⟨some 20, .build [.i 0, .i 0, .i 0, .nils] [(0, 1), (1, 1), (2, 1)], [.t 15, .t 17, .t 19], none⟩,
     ⟨some 7, .alloc [.i 0, .i 0, .i 0, .nils], [], none⟩,
     ⟨none, .store 4 true, [.t 7, .t 20], none⟩] [1, 2, 3, 6, 7] [3, 6, 7, 64, 84, 122])
   (.seq
    (.seq
     (.reg [] [⟨some 21, .faddr 0, [.t 3], none⟩,
       ⟨some 22, .load none false, [.t 21], none⟩] [1, 2, 3, 6, 7, 22] [3, 6, 7, 64, 84, 122])
     (.block 0
      (.seq
       (.seq
        (.reg [] [⟨some 24, .bin .eq, [.t 22, .k (.i 1)], none⟩,
          ⟨some 23, .move, [.t 24], none⟩] [1, 2, 3, 6, 7, 22, 23] [3, 6, 7, 64, 84, 122])
        (.cond (.t 23)
         .skip
         (.reg [] [⟨some 25, .bin .eq, [.t 22, .k (.i 7)], none⟩,
           ⟨some 23, .move, [.t 25], none⟩] [1, 2, 3, 6, 7, 22, 23] [3, 6, 7, 64, 84, 122])))
       (.cond (.t 23)
        (.reg [0, 1, 2, 3, 8, 4, 5, 6, 7, 12, 11, 14, 15, 16] [⟨some 26, .faddr 1, [.t 3], none⟩,
          ⟨some 27, .load none false, [.t 26], none⟩,
          ⟨some 28, .move, [.t 1], none⟩,
          ⟨some 29, .move, [.t 2], none⟩,
          ⟨some 31, .faddr 2, [.t 3], none⟩,
          ⟨some 32, .load none false, [.t 31], none⟩,
          ⟨some 33, .move, [.t 1], none⟩,
          ⟨some 34, .move, [.t 2], none⟩,
          ⟨some 30, .call [] false, [.f 75, .t 27, .t 28, .t 29], none⟩,
          ⟨none, .chk (.faddr 2), [.t 31, .t 3], none⟩,
          ⟨none, .chk (.load none false), [.t 32, .t 31], none⟩,
          ⟨some 36, .faddr 1, [.t 7], none⟩,
          ⟨some 35, .call [] false, [.f 75, .t 32, .t 33, .t 34], none⟩,
          ⟨none, .chk (.faddr 1), [.t 36, .t 7], none⟩,
          ⟨none, .store 1 true, [.t 36, .t 30], none⟩,
          ⟨some 37, .faddr 2, [.t 7], none⟩,
          ⟨none, .store 1 true, [.t 37, .t 35], none⟩] [1, 2, 3, 6, 7] [3, 6, 7, 64, 84, 122])
        (.seq
         (.reg [] [⟨some 39, .bin .eq, [.t 22, .k (.i 2)], none⟩,
           ⟨some 38, .move, [.t 39], none⟩] [1, 2, 3, 6, 7, 38] [3, 6, 7, 64, 84, 122])
         (.cond (.t 38)
          (.reg [] [⟨some 40, .faddr 1, [.t 3], none⟩,
            ⟨some 41, .load none false, [.t 40], none⟩,
            ⟨some 42, .move, [.t 1], none⟩,
            ⟨some 43, .move, [.t 2], none⟩,
            ⟨some 44, .call [] false, [.f 75, .t 41, .t 42, .t 43], none⟩,
            ⟨some 45, .faddr 1, [.t 7], none⟩,
            ⟨none, .store 1 true, [.t 45, .t 44], none⟩] [1, 2, 3, 6, 7] [3, 6, 7, 64, 84, 122])
          .skip))))))
    (.seq
     (.reg [] [⟨some 46, .load (some 4) false, [.t 3], none⟩,
       ⟨some 47, .call [] false, [.f 68, .t 46], none⟩,
       ⟨some 8, .move, [.t 47], none⟩] [1, 2, 3, 6, 7, 8] [3, 6, 7, 64, 84, 122])
     (.seq
      (.seq
       (.reg [] [⟨some 48, .move, [.t 8], none⟩,
         ⟨some 49, .bin .lt, [.t 48, .k (.i 0)], none⟩] [1, 2, 3, 6, 7, 8, 49] [3, 6, 7, 64, 84, 122])
       (.cond (.t 49)
        (.seq
         (.seq
          (.reg [] [⟨some 50, .faddr 3, [.t 3], none⟩,
            ⟨some 51, .load none false, [.t 50], none⟩,
            ⟨some 52, .len, [.t 51], none⟩,
            ⟨some 53, .move, [.k (.i 0)], none⟩] [1, 2, 6, 7, 51, 52, 53] [6, 7, 64, 84, 122])
          (.block 1
           (.loop [1, 2, 6, 7, 51, 52, 53] [6, 7, 64, 84, 122] c59l0)))
         (.seq
          (.reg [] [⟨some 67, .load (some 4) false, [.t 7], none⟩,
            ⟨none, .store 4 true, [.t 6, .t 67], none⟩] [6] [6, 64, 84, 122])
          .ret))
        .skip))
      (.seq
       (.reg [] [⟨some 68, .faddr 3, [.t 3], none⟩,
         ⟨some 69, .load none false, [.t 68], none⟩,
         ⟨some 70, .iaddr 4, [.t 69, .k (.i 0)], none⟩,
         ⟨some 71, .load (some 4) false, [.t 70], none⟩,
         ⟨some 11, .alloc [.i 0, .i 0, .i 0, .nils], [], none⟩,
         ⟨none, .store 4 true, [.t 11, .t 71], none⟩] [1, 2, 3, 6, 7, 8, 11] [3, 6, 7, 11, 64, 84, 110, 122])
       (.seq
        (.seq
         (.reg [] [⟨some 72, .move, [.t 8], none⟩,
           ⟨some 73, .move, [.t 1], none⟩,
           ⟨some 74, .bin .eq, [.t 72, .t 73], none⟩,
           ⟨some 75, .move, [.t 74], none⟩,
           ⟨some 76, .load (some 4) false, [.t 11], some (75, false)⟩,
           ⟨some 77, .call [] false, [.f 47, .t 76], some (75, false)⟩,
           ⟨some 78, .move, [.t 1], some (75, false)⟩,
           ⟨some 79, .idx none 1 30, [.t 77, .t 78], some (75, false)⟩,
           ⟨some 80, .not, [.t 79], some (75, false)⟩,
           ⟨some 81, .pick, [.t 75, .k (.b true), .t 80], none⟩] [1, 2, 3, 6, 7, 8, 11, 81] [3, 6, 7, 11, 64, 84, 110, 122])
         (.cond (.t 81)
          (.seq
           (.reg [] [⟨some 82, .load (some 4) false, [.t 11], none⟩,
             ⟨some 83, .call [] false, [.f 76, .t 82], none⟩,
             ⟨some 84, .bslice 4 true, [.t 83], none⟩,
             ⟨some 85, .faddr 3, [.t 7], none⟩,
             ⟨none, .store 1 true, [.t 85, .t 84], none⟩] [6, 7] [6, 7, 64, 84, 122])
           (.seq
            (.reg [] [⟨some 86, .load (some 4) false, [.t 7], none⟩,
              ⟨none, .store 4 true, [.t 6, .t 86], none⟩] [6] [6, 64, 84, 122])
            .ret))
          .skip))
        (.seq
         (.seq
          (.reg [] [⟨some 87, .move, [.t 8], none⟩,
            ⟨some 88, .move, [.t 2], none⟩,
            ⟨some 89, .bin .eq, [.t 87, .t 88], none⟩] [1, 2, 3, 6, 7, 8, 11, 89] [3, 6, 7, 11, 64, 84, 110, 122])
          (.cond (.t 89)
           (.seq
            (.reg [] [⟨some 90, .load (some 4) false, [.t 11], none⟩,
              ⟨some 91, .call [] false, [.f 47, .t 90], none⟩,
              ⟨some 12, .alloc [.b false, .b false, .b false, .b false, .b false, .b false, .b false, .b false, .b false, .b false, .b false, .b false, .b false, .b false, .b false, .b false, .b false, .b false, .b false, .b false, .b false, .b false, .b false, .b false, .b false, .b false, .b false, .b false, .b false, .b false], [], none⟩,
              ⟨none, .store 30 true, [.t 12, .t 91], none⟩,
              ⟨some 13, .move, [.k (.i 0)], none⟩] [1, 2, 3, 6, 7, 8, 11, 12, 13] [3, 6, 7, 11, 12, 64, 84, 110, 122])
            (.seq
             (.block 3
              (.loop [1, 2, 3, 6, 7, 8, 11, 12, 13] [3, 6, 7, 11, 12, 64, 84, 110, 122] c59l1))
             (.seq
              (.reg [] [⟨some 107, .load (some 4) false, [.t 11], none⟩,
                ⟨some 108, .move, [.t 8], none⟩,
                ⟨some 109, .move, [.t 13], none⟩,
                ⟨some 110, .call [] false, [.f 59, .t 107, .t 108, .t 109], none⟩,
                ⟨none, .store 4 true, [.t 11, .t 110], none⟩] [1, 2, 3, 6, 7, 11, 13] [3, 6, 7, 11, 64, 84, 110, 122])
              (.seq
               (.reg [] [⟨some 111, .faddr 0, [.t 3], none⟩,
                 ⟨some 112, .load none false, [.t 111], none⟩,
                 ⟨some 113, .bin .eq, [.t 112, .k (.i 2)], none⟩] [1, 2, 6, 7, 11, 13, 113] [6, 7, 11, 64, 84, 110, 122])
               (.cond (.t 113)
                (.reg [] [⟨some 114, .move, [.t 13], none⟩,
                  ⟨some 115, .faddr 2, [.t 7], none⟩,
                  ⟨none, .store 1 true, [.t 115, .t 114], none⟩] [1, 2, 6, 7, 11] [6, 7, 11, 64, 84, 110, 122])
                (.reg [] [⟨some 116, .move, [.t 13], none⟩,
                  ⟨some 117, .faddr 1, [.t 7], none⟩,
                  ⟨none, .store 1 true, [.t 117, .t 116], none⟩] [1, 2, 6, 7, 11] [6, 7, 11, 64, 84, 110, 122]))))))
           .skip))
         (.seq
          (.reg [] [⟨some 118, .load (some 4) false, [.t 11], none⟩,
            ⟨some 119, .move, [.t 1], none⟩,
            ⟨some 120, .move, [.t 2], none⟩,
            ⟨some 121, .call [] false, [.f 59, .t 118, .t 119, .t 120], none⟩,
            ⟨some 122, .bslice 4 true, [.t 121], none⟩,
            ⟨some 123, .faddr 3, [.t 7], none⟩,
            ⟨none, .store 1 true, [.t 123, .t 122], none⟩] [6, 7] [6, 7, 64, 84, 122])
          (.seq
           (.reg [] [⟨some 124, .load (some 4) false, [.t 7], none⟩,
             ⟨none, .store 4 true, [.t 6, .t 124], none⟩] [6] [6, 64, 84, 122])
           .ret))))))))))
def a59 : AF := ⟨c59, [.cell 6 (some 4)]⟩
/-- impl.PiPut -/
def c33 : AC :=
 (.seq
  (.reg [] [⟨some 3, .box, [.t 0], none⟩,
    ⟨some 6, .alloc [.i 0, .i 0, .i 0, .nils], [], none⟩,
    ⟨some 7, .move, [.k (.b false)], none⟩] [1, 2, 3, 6] [3, 6, 25])
  (.seq
   (.seq
    (.reg [] [⟨some 8, .load (some 4) false, [.t 3], none⟩,
      ⟨some 9, .call [] false, [.f 12, .t 8], none⟩,
      ⟨some 10, .not, [.t 9], none⟩,
      ⟨some 11, .move, [.t 10], none⟩,
      ⟨some 12, .move, [.t 1], some (11, false)⟩,
      ⟨some 13, .call [] false, [.f 58, .t 12], some (11, false)⟩,
      ⟨some 14, .not, [.t 13], some (11, false)⟩,
      ⟨some 15, .pick, [.t 11, .k (.b true), .t 14], none⟩,
      ⟨some 16, .move, [.t 15], none⟩,
      ⟨some 17, .move, [.t 2], some (16, false)⟩,
      ⟨some 18, .call [] false, [.f 58, .t 17], some (16, false)⟩,
      ⟨some 19, .not, [.t 18], some (16, false)⟩,
      ⟨some 20, .pick, [.t 16, .k (.b true), .t 19], none⟩] [1, 2, 3, 6, 20] [3, 6, 25])
    (.cond (.t 20)
     (.seq
      (.reg [] [⟨some 21, .build [.i 0, .i 0, .i 0, .nils] [], [], none⟩,
        ⟨none, .store 4 true, [.t 6, .t 21], none⟩,
        ⟨some 7, .move, [.k (.b false)], none⟩] [6, 7] [6, 25])
      .ret)
     .skip))
   (.seq
    (.reg [] [⟨some 22, .load (some 4) false, [.t 3], none⟩,
      ⟨some 23, .move, [.t 1], none⟩,
      ⟨some 24, .move, [.t 2], none⟩,
      ⟨some 25, .call [] false, [.f 59, .t 22, .t 23, .t 24], none⟩,
      ⟨none, .store 4 true, [.t 6, .t 25], none⟩,
      ⟨some 7, .move, [.k (.b true)], none⟩] [6, 7] [6, 25])
    .ret)))
def a33 : AF := ⟨c33, [.cell 6 (some 4), .tmp 7]⟩
def b60l0 : AC :=
 (.seq
  (.seq
   (.reg [] [⟨some 6, .move, [.t 5], none⟩,
     ⟨some 7, .move, [.t 0], none⟩,
     ⟨some 8, .len, [.t 7], none⟩,
     ⟨some 9, .bin .lt, [.t 6, .t 8], none⟩] [0, 1, 5, 9] [])
   (.cond (.t 9)
    .skip
    (.exit 0)))
  (.seq
   (.block 1
    (.seq
     (.seq
      (.reg [] [⟨some 12, .move, [.t 0], none⟩,
        ⟨some 13, .move, [.t 5], none⟩,
        ⟨some 14, .iaddr 4, [.t 12, .t 13], none⟩,
        ⟨some 15, .faddr 0, [.t 14], none⟩,
        ⟨some 16, .load none false, [.t 15], none⟩,
        ⟨some 17, .move, [.t 1], none⟩,
        ⟨some 18, .bin .ne, [.t 16, .t 17], none⟩] [0, 1, 5, 18] [])
      (.cond (.t 18)
       (.seq
        (.reg [] [⟨some 4, .move, [.k (.i (-1))], none⟩] [4] [])
        .ret)
       .skip))
     (.seq
      (.reg [] [⟨some 19, .move, [.t 1], none⟩,
        ⟨some 20, .bin .add, [.t 19, .k (.i 1)], none⟩,
        ⟨some 1, .move, [.t 20], none⟩] [0, 1, 5] [])
      (.seq
       (.seq
        (.reg [] [⟨some 21, .move, [.t 0], none⟩,
          ⟨some 22, .move, [.t 5], none⟩,
          ⟨some 23, .iaddr 4, [.t 21, .t 22], none⟩,
          ⟨some 24, .faddr 1, [.t 23], none⟩,
          ⟨some 25, .load none false, [.t 24], none⟩,
          ⟨some 26, .move, [.t 1], none⟩,
          ⟨some 27, .bin .ne, [.t 25, .t 26], none⟩] [0, 1, 5, 27] [])
        (.cond (.t 27)
         (.seq
          (.reg [] [⟨some 4, .move, [.k (.i (-1))], none⟩] [4] [])
          .ret)
         .skip))
       (.seq
        (.reg [] [⟨some 28, .move, [.t 1], none⟩,
          ⟨some 29, .bin .add, [.t 28, .k (.i 1)], none⟩,
          ⟨some 1, .move, [.t 29], none⟩] [0, 1, 5] [])
        (.seq
         (.seq
          (.reg [] [⟨some 30, .move, [.t 0], none⟩,
            ⟨some 31, .move, [.t 5], none⟩,
            ⟨some 32, .iaddr 4, [.t 30, .t 31], none⟩,
            ⟨some 33, .faddr 2, [.t 32], none⟩,
            ⟨some 34, .load none false, [.t 33], none⟩,
            ⟨some 35, .move, [.t 1], none⟩,
            ⟨some 36, .bin .ne, [.t 34, .t 35], none⟩] [0, 1, 5, 36] [])
          (.cond (.t 36)
           (.seq
            (.reg [] [⟨some 4, .move, [.k (.i (-1))], none⟩] [4] [])
            .ret)
           .skip))
         (.seq
          (.reg [] [⟨some 37, .move, [.t 1], none⟩,
            ⟨some 38, .bin .add, [.t 37, .k (.i 1)], none⟩,
            ⟨some 1, .move, [.t 38], none⟩] [0, 1, 5] [])
          (.seq
           (.reg [] [⟨some 39, .move, [.t 0], none⟩,
             ⟨some 40, .move, [.t 5], none⟩,
             ⟨some 41, .iaddr 4, [.t 39, .t 40], none⟩,
             ⟨some 42, .faddr 3, [.t 41], none⟩,
             ⟨some 43, .load none false, [.t 42], none⟩,
             ⟨some 44, .move, [.t 1], none⟩,
             ⟨some 45, .call [] false, [.f 60, .t 43, .t 44], none⟩,
             ⟨some 1, .move, [.t 45], none⟩] [0, 1, 5] [])
           (.seq
            (.reg [] [⟨some 46, .move, [.t 1], none⟩,
              ⟨some 47, .bin .lt, [.t 46, .k (.i 0)], none⟩] [0, 1, 5, 47] [])
            (.cond (.t 47)
             (.seq
              (.reg [] [⟨some 4, .move, [.k (.i (-1))], none⟩] [4] [])
              .ret)
             .skip))))))))))
   (.reg [] [⟨some 10, .move, [.t 5], none⟩,
     ⟨some 11, .bin .add, [.t 10, .k (.i 1)], none⟩,
     ⟨some 5, .move, [.t 11], none⟩] [0, 1, 5] [])))
def c60l0 : AC := b60l0
theorem r60l0 (call lp s) : run call lp c60l0 s = run call lp b60l0 s := rfl
/-- laws.heldPiS -/
def c60 : AC :=
 (.seq
  (.reg [] [⟨some 4, .move, [.k (.i 0)], none⟩] [0, 1] [])
  (.seq
   (.seq
    (.reg [] [⟨some 5, .move, [.k (.i 0)], none⟩] [0, 1, 5] [])
    (.block 0
     (.loop [0, 1, 5] [] c60l0)))
   (.seq
    (.reg [] [⟨some 48, .move, [.t 1], none⟩,
      ⟨some 4, .move, [.t 48], none⟩] [4] [])
    .ret)))
def a60 : AF := ⟨c60, [.tmp 4]⟩
/-- laws.heldPi -/
def c34 : AC :=
 (.seq
  (.reg [] [⟨some 2, .box, [.t 0], none⟩,
    ⟨some 4, .move, [.k (.i 0)], none⟩] [1, 2] [2])
  (.seq
   (.reg [] [⟨some 5, .faddr 3, [.t 2], none⟩,
     ⟨some 6, .load none false, [.t 5], none⟩,
     ⟨some 7, .move, [.t 1], none⟩,
     ⟨some 8, .call [] false, [.f 60, .t 6, .t 7], none⟩,
     ⟨some 1, .move, [.t 8], none⟩] [1] [])
   (.seq
    (.seq
     (.reg [] [⟨some 9, .move, [.t 1], none⟩,
       ⟨some 10, .bin .lt, [.t 9, .k (.i 0)], none⟩] [1, 10] [])
     (.cond (.t 10)
      (.seq
       (.reg [] [⟨some 4, .move, [.k (.i (-1))], none⟩] [4] [])
       .ret)
      .skip))
    (.seq
     (.reg [] [⟨some 11, .move, [.t 1], none⟩,
       ⟨some 4, .move, [.t 11], none⟩] [4] [])
     .ret))))
def a34 : AF := ⟨c34, [.tmp 4]⟩
/-- laws.FnExactPiPut -/
def c8 : AC :=
 (.seq
  (.reg [] [⟨some 3, .box, [.t 0], none⟩,
    ⟨some 6, .move, [.k (.b false)], none⟩] [1, 2, 3] [3])
  (.seq
   (.reg [] [⟨some 7, .move, [.k (.i 1048576)], none⟩] [1, 2, 3, 7] [3])
   (.seq
    (.reg [] [⟨some 18, .load (some 4) false, [.t 3], none⟩,
      ⟨some 19, .move, [.t 7], none⟩,
      ⟨some 20, .call [] false, [.f 9, .t 18, .t 19], none⟩,
      ⟨some 7, .move, [.t 20], none⟩] [1, 2, 3, 7] [3])
    (.seq
     (.seq
      (.reg [] [⟨some 21, .move, [.t 7], none⟩,
        ⟨some 22, .bin .lt, [.t 21, .k (.i 0)], none⟩] [1, 2, 3, 22] [3])
      (.cond (.t 22)
       (.seq
        (.reg [] [⟨some 6, .move, [.k (.b true)], none⟩] [6] [])
        .ret)
       .skip))
     (.seq
      (.reg [] [⟨some 24, .load (some 4) false, [.t 3], none⟩,
        ⟨some 25, .call [] false, [.f 11, .t 24], none⟩,
        ⟨some 26, .move, [.t 1], none⟩,
        ⟨some 27, .move, [.t 2], none⟩,
        ⟨some 28, .call [] false, [.f 32, .t 25, .t 26, .t 27], none⟩,
        ⟨some 23, .move, [.t 28], none⟩,
        ⟨some 29, .ext 0, [.t 23], none⟩,
        ⟨some 30, .ext 1, [.t 23], none⟩,
        ⟨some 8, .alloc [.i 0, .i 0, .i 0, .nils], [], none⟩,
        ⟨none, .store 4 true, [.t 8, .t 29], none⟩,
        ⟨some 9, .move, [.t 30], none⟩] [1, 2, 3, 8, 9] [3, 8, 25, 28])
      (.seq
       (.reg [] [⟨some 31, .load (some 4) false, [.t 3], none⟩,
         ⟨some 32, .call [] false, [.f 11, .t 31], none⟩,
         ⟨some 10, .alloc [.i 0, .i 0, .i 0, .nils], [], none⟩,
         ⟨none, .store 4 true, [.t 10, .t 32], none⟩] [1, 2, 3, 8, 9, 10] [3, 8, 10, 25, 28, 32])
       (.seq
        (.reg [] [⟨some 34, .load (some 4) false, [.t 10], none⟩,
          ⟨some 35, .move, [.t 1], none⟩,
          ⟨some 36, .move, [.t 2], none⟩,
          ⟨some 37, .call [] false, [.f 33, .t 34, .t 35, .t 36], none⟩,
          ⟨some 33, .move, [.t 37], none⟩,
          ⟨some 38, .ext 0, [.t 33], none⟩,
          ⟨some 39, .ext 1, [.t 33], none⟩,
          ⟨some 11, .alloc [.i 0, .i 0, .i 0, .nils], [], none⟩,
          ⟨none, .store 4 true, [.t 11, .t 38], none⟩,
          ⟨some 12, .move, [.t 39], none⟩] [1, 2, 3, 8, 9, 10, 11, 12] [3, 8, 10, 11, 25, 28, 32, 37])
        (.seq
         (.seq
          (.reg [] [⟨some 40, .load (some 4) false, [.t 11], none⟩,
            ⟨some 41, .load (some 4) false, [.t 8], none⟩,
            ⟨some 42, .call [] false, [.f 13, .t 40, .t 41], none⟩,
            ⟨some 43, .not, [.t 42], none⟩,
            ⟨some 44, .move, [.t 43], none⟩,
            ⟨some 45, .move, [.t 12], some (44, false)⟩,
            ⟨some 46, .move, [.t 9], some (44, false)⟩,
            ⟨some 47, .bne, [.t 45, .t 46], some (44, false)⟩,
            ⟨some 48, .pick, [.t 44, .k (.b true), .t 47], none⟩] [1, 2, 3, 8, 9, 10, 11, 12, 48] [3, 8, 10, 11, 25, 28, 32, 37])
          (.cond (.t 48)
           (.seq
            (.reg [] [⟨some 6, .move, [.k (.b false)], none⟩] [6] [])
            .ret)
           .skip))
         (.seq
          (.seq
           (.reg [0, 1, 2, 4, 5] [⟨some 49, .load (some 4) false, [.t 10], none⟩,
             ⟨some 50, .load (some 4) false, [.t 3], none⟩,
             ⟨some 51, .call [] false, [.f 11, .t 50], none⟩,
             ⟨none, .chk (.load (some 4) false), [.t 49, .t 10], none⟩,
             ⟨some 52, .call [] false, [.f 13, .t 49, .t 51], none⟩,
             ⟨some 53, .not, [.t 52], none⟩] [1, 2, 3, 8, 9, 10, 11, 12, 53] [3, 8, 10, 11, 25, 28, 32, 37])
           (.cond (.t 53)
            (.seq
             (.reg [] [⟨some 6, .move, [.k (.b false)], none⟩] [6] [])
             .ret)
            .skip))
          (.seq
           (.reg [] [⟨some 13, .move, [.k (.i 1)], none⟩] [1, 2, 3, 8, 9, 10, 11, 12, 13] [3, 8, 10, 11, 25, 28, 32, 37])
           (.seq
            (.reg [] [⟨some 54, .load (some 4) false, [.t 10], none⟩,
              ⟨some 55, .move, [.t 13], none⟩,
              ⟨some 56, .call [0] false, [.f 20, .t 54, .t 55], none⟩,
              ⟨some 13, .move, [.t 56], none⟩] [1, 2, 3, 8, 9, 11, 12, 13] [3, 8, 11, 25, 28, 32, 37])
            (.seq
             (.seq
              (.reg [] [⟨some 57, .move, [.t 13], none⟩,
                ⟨some 58, .bin .lt, [.t 57, .k (.i 0)], none⟩,
                ⟨some 59, .move, [.t 58], none⟩,
                ⟨some 60, .load (some 4) false, [.t 11], some (59, false)⟩,
                ⟨some 61, .load (some 4) false, [.t 8], some (59, false)⟩,
                ⟨some 62, .call [] false, [.f 13, .t 60, .t 61], some (59, false)⟩,
                ⟨some 63, .not, [.t 62], some (59, false)⟩,
                ⟨some 64, .pick, [.t 59, .k (.b true), .t 63], none⟩,
                ⟨some 65, .move, [.t 64], none⟩,
                ⟨some 66, .move, [.t 12], some (65, false)⟩,
                ⟨some 67, .move, [.t 9], some (65, false)⟩,
                ⟨some 68, .bne, [.t 66, .t 67], some (65, false)⟩,
                ⟨some 69, .pick, [.t 65, .k (.b true), .t 68], none⟩] [1, 2, 3, 8, 9, 11, 69] [3, 8, 11, 25, 28, 32, 37])
              (.cond (.t 69)
               (.seq
                (.reg [] [⟨some 6, .move, [.k (.b false)], none⟩] [6] [])
                .ret)
               .skip))
             (.seq
              (.reg [] [⟨some 14, .move, [.k (.i 1)], none⟩] [1, 2, 3, 8, 9, 11, 14] [3, 8, 11, 25, 28, 32, 37])
              (.seq
               (.reg [] [⟨some 70, .load (some 4) false, [.t 11], none⟩,
                 ⟨some 71, .move, [.t 14], none⟩,
                 ⟨some 72, .call [0] false, [.f 20, .t 70, .t 71], none⟩,
                 ⟨some 14, .move, [.t 72], none⟩] [1, 2, 3, 8, 9, 11, 14] [3, 8, 11, 25, 28, 32, 37])
               (.seq
                (.reg [] [⟨some 15, .move, [.k (.i 1)], none⟩] [1, 2, 3, 8, 9, 11, 14, 15] [3, 8, 11, 25, 28, 32, 37])
                (.seq
                 (.reg [] [⟨some 73, .load (some 4) false, [.t 11], none⟩,
                   ⟨some 74, .move, [.t 15], none⟩,
                   ⟨some 75, .call [] false, [.f 34, .t 73, .t 74], none⟩,
                   ⟨some 15, .move, [.t 75], none⟩] [1, 2, 3, 8, 9, 11, 14, 15] [3, 8, 11, 25, 28, 32, 37])
                 (.seq
                  (.seq
                   (.reg [] [⟨some 76, .move, [.t 15], none⟩,
                     ⟨some 77, .bin .lt, [.t 76, .k (.i 0)], none⟩] [1, 2, 3, 8, 9, 11, 14, 15, 77] [3, 8, 11, 25, 28, 32, 37])
                   (.cond (.t 77)
                    (.seq
                     (.reg [] [⟨some 6, .move, [.k (.b false)], none⟩] [6] [])
                     .ret)
                    .skip))
                  (.seq
                   (.seq
                    (.reg [] [⟨some 78, .move, [.t 15], none⟩,
                      ⟨some 79, .move, [.t 14], none⟩,
                      ⟨some 80, .bin .ne, [.t 78, .t 79], none⟩] [1, 2, 3, 8, 9, 11, 14, 80] [3, 8, 11, 25, 28, 32, 37])
                    (.cond (.t 80)
                     (.seq
                      (.reg [] [⟨some 6, .move, [.k (.b false)], none⟩] [6] [])
                      .ret)
                     .skip))
                   (.seq
                    (.reg [] [⟨some 82, .load (some 4) false, [.t 3], none⟩,
                      ⟨some 83, .call [] false, [.f 11, .t 82], none⟩,
                      ⟨some 84, .move, [.t 1], none⟩,
                      ⟨some 85, .move, [.t 2], none⟩,
                      ⟨some 86, .call [] false, [.f 33, .t 83, .t 84, .t 85], none⟩,
                      ⟨some 81, .move, [.t 86], none⟩,
                      ⟨some 87, .ext 0, [.t 81], none⟩,
                      ⟨some 88, .ext 1, [.t 81], none⟩,
                      ⟨some 16, .alloc [.i 0, .i 0, .i 0, .nils], [], none⟩,
                      ⟨none, .store 4 true, [.t 16, .t 87], none⟩,
                      ⟨some 17, .move, [.t 88], none⟩] [8, 9, 11, 14, 16, 17] [8, 11, 16, 25, 28, 32, 37, 83, 86])
                    (.seq
                     (.seq
                      (.reg [] [⟨some 89, .load (some 4) false, [.t 16], none⟩,
                        ⟨some 90, .load (some 4) false, [.t 8], none⟩,
                        ⟨some 91, .call [] false, [.f 13, .t 89, .t 90], none⟩,
                        ⟨some 92, .not, [.t 91], none⟩,
                        ⟨some 93, .move, [.t 92], none⟩,
                        ⟨some 94, .move, [.t 17], some (93, false)⟩,
                        ⟨some 95, .move, [.t 9], some (93, false)⟩,
                        ⟨some 96, .bne, [.t 94, .t 95], some (93, false)⟩,
                        ⟨some 97, .pick, [.t 93, .k (.b true), .t 96], none⟩] [11, 14, 97] [11, 32, 37])
                      (.cond (.t 97)
                       (.seq
                        (.reg [] [⟨some 6, .move, [.k (.b false)], none⟩] [6] [])
                        .ret)
                       .skip))
                     (.seq
                      (.reg [] [⟨some 15, .move, [.k (.i 1)], none⟩] [11, 14, 15] [11, 32, 37])
                      (.seq
                       (.reg [] [⟨some 98, .load (some 4) false, [.t 11], none⟩,
                         ⟨some 99, .move, [.t 15], none⟩,
                         ⟨some 100, .call [] false, [.f 34, .t 98, .t 99], none⟩,
                         ⟨some 15, .move, [.t 100], none⟩] [14, 15] [])
                       (.seq
                        (.seq
                         (.reg [] [⟨some 101, .move, [.t 15], none⟩,
                           ⟨some 102, .bin .lt, [.t 101, .k (.i 0)], none⟩] [14, 15, 102] [])
                         (.cond (.t 102)
                          (.seq
                           (.reg [] [⟨some 6, .move, [.k (.b false)], none⟩] [6] [])
                           .ret)
                          .skip))
                        (.seq
                         (.seq
                          (.reg [] [⟨some 103, .move, [.t 15], none⟩,
                            ⟨some 104, .move, [.t 14], none⟩,
                            ⟨some 105, .bin .ne, [.t 103, .t 104], none⟩] [105] [])
                          (.cond (.t 105)
                           (.seq
                            (.reg [] [⟨some 6, .move, [.k (.b false)], none⟩] [6] [])
                            .ret)
                           .skip))
                         (.seq
                          (.reg [] [⟨some 6, .move, [.k (.b true)], none⟩] [6] [])
                          .ret)))))))))))))))))))))))))
def a8 : AF := ⟨c8, [.tmp 6]⟩
theorem ok35 : okF Try.prog 35 a35 = true := by kernel_rfl
theorem ok9 : okF Try.prog 9 a9 = true := by kernel_rfl
theorem ok38 : okF Try.prog 38 a38 = true := by kernel_rfl
theorem ok11 : okF Try.prog 11 a11 = true := by kernel_rfl
theorem ok36 : okF Try.prog 36 a36 = true := by kernel_rfl
theorem ok56 : okF Try.prog 56 a56 = true := by kernel_rfl
theorem ok37 : okF Try.prog 37 a37 = true := by kernel_rfl
theorem ok10 : okF Try.prog 10 a10 = true := by kernel_rfl
theorem ok39 : okF Try.prog 39 a39 = true := by kernel_rfl
theorem ok58 : okF Try.prog 58 a58 = true := by kernel_rfl
theorem ok73 : okF Try.prog 73 a73 = true := by kernel_rfl
theorem ok53 : okF Try.prog 53 a53 = true := by kernel_rfl
theorem ok61 : okF Try.prog 61 a61 = true := by kernel_rfl
theorem ok40 : okF Try.prog 40 a40 = true := by kernel_rfl
theorem ok12 : okF Try.prog 12 a12 = true := by kernel_rfl
theorem ok41 : okF Try.prog 41 a41 = true := by kernel_rfl
theorem ok13 : okF Try.prog 13 a13 = true := by kernel_rfl
theorem ok3 : okF Try.prog 3 a3 = true := by kernel_rfl
theorem ok15 : okF Try.prog 15 a15 = true := by kernel_rfl
theorem ok42 : okF Try.prog 42 a42 = true := by kernel_rfl
theorem ok43 : okF Try.prog 43 a43 = true := by kernel_rfl
theorem ok14 : okF Try.prog 14 a14 = true := by kernel_rfl
theorem ok77 : okF Try.prog 77 a77 = true := by kernel_rfl
theorem ok62 : okF Try.prog 62 a62 = true := by kernel_rfl
theorem ok63 : okF Try.prog 63 a63 = true := by kernel_rfl
theorem ok44 : okF Try.prog 44 a44 = true := by kernel_rfl
theorem ok64 : okF Try.prog 64 a64 = true := by kernel_rfl
theorem ok65 : okF Try.prog 65 a65 = true := by kernel_rfl
theorem ok45 : okF Try.prog 45 a45 = true := by kernel_rfl
theorem ok16 : okF Try.prog 16 a16 = true := by kernel_rfl
theorem ok17 : okF Try.prog 17 a17 = true := by kernel_rfl
theorem ok4 : okF Try.prog 4 a4 = true := by kernel_rfl
theorem ok66 : okF Try.prog 66 a66 = true := by kernel_rfl
theorem ok67 : okF Try.prog 67 a67 = true := by kernel_rfl
theorem ok46 : okF Try.prog 46 a46 = true := by kernel_rfl
theorem ok18 : okF Try.prog 18 a18 = true := by kernel_rfl
theorem ok68 : okF Try.prog 68 a68 = true := by kernel_rfl
theorem ok69 : okF Try.prog 69 a69 = true := by kernel_rfl
theorem ok47 : okF Try.prog 47 a47 = true := by kernel_rfl
theorem ok19 : okF Try.prog 19 a19 = true := by kernel_rfl
theorem ok48 : okF Try.prog 48 a48 = true := by kernel_rfl
theorem ok20 : okF Try.prog 20 a20 = true := by kernel_rfl
theorem ok21 : okF Try.prog 21 a21 = true := by kernel_rfl
theorem ok22 : okF Try.prog 22 a22 = true := by kernel_rfl
theorem ok5 : okF Try.prog 5 a5 = true := by kernel_rfl
theorem ok51 : okF Try.prog 51 a51 = true := by kernel_rfl
theorem ok27 : okF Try.prog 27 a27 = true := by kernel_rfl
theorem ok29 : okF Try.prog 29 a29 = true := by kernel_rfl
theorem ok52 : okF Try.prog 52 a52 = true := by kernel_rfl
theorem ok28 : okF Try.prog 28 a28 = true := by kernel_rfl
theorem ok55 : okF Try.prog 55 a55 = true := by kernel_rfl
theorem ok54 : okF Try.prog 54 a54 = true := by kernel_rfl
theorem ok30 : okF Try.prog 30 a30 = true := by kernel_rfl
theorem ok31 : okF Try.prog 31 a31 = true := by kernel_rfl
theorem ok7 : okF Try.prog 7 a7 = true := by kernel_rfl
theorem ok74 : okF Try.prog 74 a74 = true := by kernel_rfl
theorem ok57 : okF Try.prog 57 a57 = true := by kernel_rfl
theorem ok32 : okF Try.prog 32 a32 = true := by kernel_rfl
theorem ok75 : okF Try.prog 75 a75 = true := by kernel_rfl
theorem ok76 : okF Try.prog 76 a76 = true := by kernel_rfl
theorem ok59 : okF Try.prog 59 a59 = true := by kernel_rfl
theorem ok33 : okF Try.prog 33 a33 = true := by kernel_rfl
theorem ok60 : okF Try.prog 60 a60 = true := by kernel_rfl
theorem ok34 : okF Try.prog 34 a34 = true := by kernel_rfl
theorem ok8 : okF Try.prog 8 a8 = true := by kernel_rfl
def codes : Nat → Option AF
  | 35 => some a35
  | 9 => some a9
  | 38 => some a38
  | 11 => some a11
  | 36 => some a36
  | 56 => some a56
  | 37 => some a37
  | 10 => some a10
  | 39 => some a39
  | 58 => some a58
  | 73 => some a73
  | 53 => some a53
  | 61 => some a61
  | 40 => some a40
  | 12 => some a12
  | 41 => some a41
  | 13 => some a13
  | 3 => some a3
  | 15 => some a15
  | 42 => some a42
  | 43 => some a43
  | 14 => some a14
  | 77 => some a77
  | 62 => some a62
  | 63 => some a63
  | 44 => some a44
  | 64 => some a64
  | 65 => some a65
  | 45 => some a45
  | 16 => some a16
  | 17 => some a17
  | 4 => some a4
  | 66 => some a66
  | 67 => some a67
  | 46 => some a46
  | 18 => some a18
  | 68 => some a68
  | 69 => some a69
  | 47 => some a47
  | 19 => some a19
  | 48 => some a48
  | 20 => some a20
  | 21 => some a21
  | 22 => some a22
  | 5 => some a5
  | 51 => some a51
  | 27 => some a27
  | 29 => some a29
  | 52 => some a52
  | 28 => some a28
  | 55 => some a55
  | 54 => some a54
  | 30 => some a30
  | 31 => some a31
  | 7 => some a7
  | 74 => some a74
  | 57 => some a57
  | 32 => some a32
  | 75 => some a75
  | 76 => some a76
  | 59 => some a59
  | 33 => some a33
  | 60 => some a60
  | 34 => some a34
  | 8 => some a8
  | _ => none
def G : Prog := ⟨codes, fun _ => none⟩
@[simp] theorem g35 : G.code 35 = some a35 := rfl
@[simp] theorem g9 : G.code 9 = some a9 := rfl
@[simp] theorem g38 : G.code 38 = some a38 := rfl
@[simp] theorem g11 : G.code 11 = some a11 := rfl
@[simp] theorem g36 : G.code 36 = some a36 := rfl
@[simp] theorem g56 : G.code 56 = some a56 := rfl
@[simp] theorem g37 : G.code 37 = some a37 := rfl
@[simp] theorem g10 : G.code 10 = some a10 := rfl
@[simp] theorem g39 : G.code 39 = some a39 := rfl
@[simp] theorem g58 : G.code 58 = some a58 := rfl
@[simp] theorem g73 : G.code 73 = some a73 := rfl
@[simp] theorem g53 : G.code 53 = some a53 := rfl
@[simp] theorem g61 : G.code 61 = some a61 := rfl
@[simp] theorem g40 : G.code 40 = some a40 := rfl
@[simp] theorem g12 : G.code 12 = some a12 := rfl
@[simp] theorem g41 : G.code 41 = some a41 := rfl
@[simp] theorem g13 : G.code 13 = some a13 := rfl
@[simp] theorem g3 : G.code 3 = some a3 := rfl
@[simp] theorem g15 : G.code 15 = some a15 := rfl
@[simp] theorem g42 : G.code 42 = some a42 := rfl
@[simp] theorem g43 : G.code 43 = some a43 := rfl
@[simp] theorem g14 : G.code 14 = some a14 := rfl
@[simp] theorem g77 : G.code 77 = some a77 := rfl
@[simp] theorem g62 : G.code 62 = some a62 := rfl
@[simp] theorem g63 : G.code 63 = some a63 := rfl
@[simp] theorem g44 : G.code 44 = some a44 := rfl
@[simp] theorem g64 : G.code 64 = some a64 := rfl
@[simp] theorem g65 : G.code 65 = some a65 := rfl
@[simp] theorem g45 : G.code 45 = some a45 := rfl
@[simp] theorem g16 : G.code 16 = some a16 := rfl
@[simp] theorem g17 : G.code 17 = some a17 := rfl
@[simp] theorem g4 : G.code 4 = some a4 := rfl
@[simp] theorem g66 : G.code 66 = some a66 := rfl
@[simp] theorem g67 : G.code 67 = some a67 := rfl
@[simp] theorem g46 : G.code 46 = some a46 := rfl
@[simp] theorem g18 : G.code 18 = some a18 := rfl
@[simp] theorem g68 : G.code 68 = some a68 := rfl
@[simp] theorem g69 : G.code 69 = some a69 := rfl
@[simp] theorem g47 : G.code 47 = some a47 := rfl
@[simp] theorem g19 : G.code 19 = some a19 := rfl
@[simp] theorem g48 : G.code 48 = some a48 := rfl
@[simp] theorem g20 : G.code 20 = some a20 := rfl
@[simp] theorem g21 : G.code 21 = some a21 := rfl
@[simp] theorem g22 : G.code 22 = some a22 := rfl
@[simp] theorem g5 : G.code 5 = some a5 := rfl
@[simp] theorem g51 : G.code 51 = some a51 := rfl
@[simp] theorem g27 : G.code 27 = some a27 := rfl
@[simp] theorem g29 : G.code 29 = some a29 := rfl
@[simp] theorem g52 : G.code 52 = some a52 := rfl
@[simp] theorem g28 : G.code 28 = some a28 := rfl
@[simp] theorem g55 : G.code 55 = some a55 := rfl
@[simp] theorem g54 : G.code 54 = some a54 := rfl
@[simp] theorem g30 : G.code 30 = some a30 := rfl
@[simp] theorem g31 : G.code 31 = some a31 := rfl
@[simp] theorem g7 : G.code 7 = some a7 := rfl
@[simp] theorem g74 : G.code 74 = some a74 := rfl
@[simp] theorem g57 : G.code 57 = some a57 := rfl
@[simp] theorem g32 : G.code 32 = some a32 := rfl
@[simp] theorem g75 : G.code 75 = some a75 := rfl
@[simp] theorem g76 : G.code 76 = some a76 := rfl
@[simp] theorem g59 : G.code 59 = some a59 := rfl
@[simp] theorem g33 : G.code 33 = some a33 := rfl
@[simp] theorem g60 : G.code 60 = some a60 := rfl
@[simp] theorem g34 : G.code 34 = some a34 := rfl
@[simp] theorem g8 : G.code 8 = some a8 := rfl
@[simp] theorem gp (n : Nat) : G.prim n = none := rfl
theorem progOK : ProgOK Try.prog G := by
  refine ⟨by kernel_rfl, fun f af _ h => ?_, fun f p h => by cases h⟩
  simp only [G] at h
  unfold codes at h
  split at h
  · cases h; exact ok35
  · cases h; exact ok9
  · cases h; exact ok38
  · cases h; exact ok11
  · cases h; exact ok36
  · cases h; exact ok56
  · cases h; exact ok37
  · cases h; exact ok10
  · cases h; exact ok39
  · cases h; exact ok58
  · cases h; exact ok73
  · cases h; exact ok53
  · cases h; exact ok61
  · cases h; exact ok40
  · cases h; exact ok12
  · cases h; exact ok41
  · cases h; exact ok13
  · cases h; exact ok3
  · cases h; exact ok15
  · cases h; exact ok42
  · cases h; exact ok43
  · cases h; exact ok14
  · cases h; exact ok77
  · cases h; exact ok62
  · cases h; exact ok63
  · cases h; exact ok44
  · cases h; exact ok64
  · cases h; exact ok65
  · cases h; exact ok45
  · cases h; exact ok16
  · cases h; exact ok17
  · cases h; exact ok4
  · cases h; exact ok66
  · cases h; exact ok67
  · cases h; exact ok46
  · cases h; exact ok18
  · cases h; exact ok68
  · cases h; exact ok69
  · cases h; exact ok47
  · cases h; exact ok19
  · cases h; exact ok48
  · cases h; exact ok20
  · cases h; exact ok21
  · cases h; exact ok22
  · cases h; exact ok5
  · cases h; exact ok51
  · cases h; exact ok27
  · cases h; exact ok29
  · cases h; exact ok52
  · cases h; exact ok28
  · cases h; exact ok55
  · cases h; exact ok54
  · cases h; exact ok30
  · cases h; exact ok31
  · cases h; exact ok7
  · cases h; exact ok74
  · cases h; exact ok57
  · cases h; exact ok32
  · cases h; exact ok75
  · cases h; exact ok76
  · cases h; exact ok59
  · cases h; exact ok33
  · cases h; exact ok60
  · cases h; exact ok34
  · cases h; exact ok8
  · cases h
end Go.Am
end
