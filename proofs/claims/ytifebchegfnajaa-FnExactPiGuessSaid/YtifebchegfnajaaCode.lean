/- The code of the laws for the abstract machine and its check. -/
import Derived.Test.YtifebchegfnajaaAmB
import Derived.Test.YtifebchegfnajaaProg
import Derived.KernelRfl
section
set_option maxRecDepth 100000
namespace Go.Am
open Go.Proofs
def b20l0 : AC :=
 (.seq
  (.seq
   (.reg [] [⟨some 12, .move, [.t 5], none⟩,
     ⟨some 13, .move, [.t 0], none⟩,
     ⟨some 14, .len, [.t 13], none⟩,
     ⟨some 15, .bin .lt, [.t 12, .t 14], none⟩] [0, 1, 5, 15] [])
   (.cond (.t 15)
    .skip
    (.exit 0)))
  (.seq
   (.block 1
    (.seq
     (.reg [] [⟨some 18, .move, [.t 0], none⟩,
       ⟨some 19, .move, [.t 5], none⟩,
       ⟨some 20, .iaddr 4, [.t 18, .t 19], none⟩,
       ⟨some 21, .load (some 4) false, [.t 20], none⟩,
       ⟨some 22, .move, [.t 1], none⟩,
       ⟨some 23, .call [] false, [.f 5, .t 21, .t 22], none⟩,
       ⟨some 1, .move, [.t 23], none⟩] [0, 1, 5] [])
     (.seq
      (.reg [] [⟨some 24, .move, [.t 1], none⟩,
        ⟨some 25, .bin .lt, [.t 24, .k (.i 0)], none⟩] [0, 1, 5, 25] [])
      (.cond (.t 25)
       (.seq
        (.reg [] [⟨some 4, .move, [.k (.i (-1))], none⟩] [4] [])
        .ret)
       .skip))))
   (.reg [] [⟨some 16, .move, [.t 5], none⟩,
     ⟨some 17, .bin .add, [.t 16, .k (.i 1)], none⟩,
     ⟨some 5, .move, [.t 17], none⟩] [0, 1, 5] [])))
def c20l0 : AC := b20l0
theorem r20l0 (call lp s) : run call lp c20l0 s = run call lp b20l0 s := rfl
/-- laws.szPiS -/
def c20 : AC :=
 (.seq
  (.reg [] [⟨some 4, .move, [.k (.i 0)], none⟩] [0, 1] [])
  (.seq
   (.reg [] [⟨some 6, .move, [.t 1], none⟩,
     ⟨some 7, .move, [.t 0], none⟩,
     ⟨some 8, .len, [.t 7], none⟩,
     ⟨some 9, .bin .sub, [.t 6, .t 8], none⟩,
     ⟨some 1, .move, [.t 9], none⟩] [0, 1] [])
   (.seq
    (.seq
     (.reg [] [⟨some 10, .move, [.t 1], none⟩,
       ⟨some 11, .bin .lt, [.t 10, .k (.i 0)], none⟩] [0, 1, 11] [])
     (.cond (.t 11)
      (.seq
       (.reg [] [⟨some 4, .move, [.k (.i (-1))], none⟩] [4] [])
       .ret)
      .skip))
    (.seq
     (.seq
      (.reg [] [⟨some 5, .move, [.k (.i 0)], none⟩] [0, 1, 5] [])
      (.block 0
       (.loop [0, 1, 5] [] c20l0)))
     (.seq
      (.reg [] [⟨some 26, .move, [.t 1], none⟩,
        ⟨some 4, .move, [.t 26], none⟩] [4] [])
      .ret)))))
def a20 : AF := ⟨c20, [.tmp 4]⟩
/-- laws.szPi -/
def c5 : AC :=
 (.seq
  (.reg [] [⟨some 2, .box, [.t 0], none⟩,
    ⟨some 4, .move, [.k (.i 0)], none⟩] [1, 2] [2])
  (.seq
   (.reg [] [⟨some 5, .faddr 3, [.t 2], none⟩,
     ⟨some 6, .load none false, [.t 5], none⟩,
     ⟨some 7, .move, [.t 1], none⟩,
     ⟨some 8, .call [] false, [.f 20, .t 6, .t 7], none⟩,
     ⟨some 1, .move, [.t 8], none⟩] [1] [])
   (.seq
    (.seq
     (.reg [] [⟨some 9, .move, [.t 1], none⟩,
       ⟨some 10, .bin .lt, [.t 9, .k (.i 0)], none⟩] [1, 10] [])
     (.cond (.t 10)
      (.seq
       (.reg [] [⟨some 4, .move, [.k (.i (-1))], none⟩] [4] [])
       .ret)
      .skip))
    (.seq
     (.reg [] [⟨some 11, .move, [.t 1], none⟩,
       ⟨some 4, .move, [.t 11], none⟩] [4] [])
     .ret))))
def a5 : AF := ⟨c5, [.tmp 4]⟩
def b25l0 : AC :=
 (.seq
  (.seq
   (.reg [] [⟨some 8, .move, [.t 4], none⟩,
     ⟨some 9, .move, [.t 0], none⟩,
     ⟨some 10, .len, [.t 9], none⟩,
     ⟨some 11, .bin .lt, [.t 8, .t 10], none⟩] [0, 3, 4, 11] [7])
   (.cond (.t 11)
    .skip
    (.exit 0)))
  (.seq
   (.block 1
    (.reg [] [⟨some 14, .move, [.t 3], none⟩,
      ⟨some 15, .move, [.t 4], none⟩,
      ⟨some 16, .move, [.t 0], none⟩,
      ⟨some 17, .move, [.t 4], none⟩,
      ⟨some 18, .iaddr 4, [.t 16, .t 17], none⟩,
      ⟨some 19, .load (some 4) false, [.t 18], none⟩,
      ⟨some 20, .call [] false, [.f 7, .t 19], none⟩,
      ⟨some 21, .iaddr 4, [.t 14, .t 15], none⟩,
      ⟨none, .store 4 true, [.t 21, .t 20], none⟩] [0, 3, 4] [7]))
   (.reg [] [⟨some 12, .move, [.t 4], none⟩,
     ⟨some 13, .bin .add, [.t 12, .k (.i 1)], none⟩,
     ⟨some 4, .move, [.t 13], none⟩] [0, 3, 4] [7])))
def c25l0 : AC := b25l0
theorem r25l0 (call lp s) : run call lp c25l0 s = run call lp b25l0 s := rfl
/-- laws.toPiS -/
def c25 : AC :=
 (.seq
  (.reg [] [⟨some 2, .move, [.k (.nils)], none⟩] [0] [])
  (.seq
   (.reg [] [⟨some 5, .move, [.t 0], none⟩,
     ⟨some 6, .len, [.t 5], none⟩,
     ⟨some 7, .mkslice 4 (.agg [.i 0, .i 0, .i 0, .nils]), [.t 6, .t 6], none⟩,
     ⟨some 3, .move, [.t 7], none⟩] [0, 3] [7])
   (.seq
    (.seq
     (.reg [] [⟨some 4, .move, [.k (.i 0)], none⟩] [0, 3, 4] [7])
     (.block 0
      (.loop [0, 3, 4] [7] c25l0)))
    (.seq
     (.reg [] [⟨some 22, .move, [.t 3], none⟩,
       ⟨some 2, .move, [.t 22], none⟩] [2] [7])
     .ret))))
def a25 : AF := ⟨c25, [.tmp 2]⟩
/-- laws.toPi -/
def c7 : AC :=
 (.seq
  (.reg [] [⟨some 1, .box, [.t 0], none⟩,
    ⟨some 2, .alloc [.i 0, .i 0, .i 0, .nils], [], none⟩] [1, 2] [1, 2, 15])
  (.seq
   (.reg [] [⟨some 3, .alloc [.i 0, .i 0, .i 0, .nils], [], none⟩] [1, 2, 3] [1, 2, 3, 15])
   (.seq
    (.reg [] [⟨some 4, .faddr 0, [.t 1], none⟩,
      ⟨some 5, .load none false, [.t 4], none⟩,
      ⟨some 6, .faddr 0, [.t 3], none⟩,
      ⟨none, .store 1 true, [.t 6, .t 5], none⟩] [1, 2, 3] [1, 2, 3, 15])
    (.seq
     (.reg [] [⟨some 7, .faddr 1, [.t 1], none⟩,
       ⟨some 8, .load none false, [.t 7], none⟩,
       ⟨some 9, .faddr 1, [.t 3], none⟩,
       ⟨none, .store 1 true, [.t 9, .t 8], none⟩] [1, 2, 3] [1, 2, 3, 15])
     (.seq
      (.reg [] [⟨some 10, .faddr 2, [.t 1], none⟩,
        ⟨some 11, .load none false, [.t 10], none⟩,
        ⟨some 12, .faddr 2, [.t 3], none⟩,
        ⟨none, .store 1 true, [.t 12, .t 11], none⟩] [1, 2, 3] [1, 2, 3, 15])
      (.seq
       (.reg [] [⟨some 13, .faddr 3, [.t 1], none⟩,
         ⟨some 14, .load none false, [.t 13], none⟩,
         ⟨some 15, .call [] false, [.f 25, .t 14], none⟩,
         ⟨some 16, .faddr 3, [.t 3], none⟩,
         ⟨none, .store 1 true, [.t 16, .t 15], none⟩] [2, 3] [2, 3, 15])
       (.seq
        (.reg [] [⟨some 17, .load (some 4) false, [.t 3], none⟩,
          ⟨none, .store 4 true, [.t 2, .t 17], none⟩] [2] [2, 15])
        .ret)))))))
def a7 : AF := ⟨c7, [.cell 2 (some 4)]⟩
def b8l0 : AC :=
 (.seq
  (.seq
   (.reg [] [⟨some 8, .move, [.t 4], none⟩,
     ⟨some 9, .move, [.t 0], none⟩,
     ⟨some 10, .len, [.t 9], none⟩,
     ⟨some 11, .bin .lt, [.t 8, .t 10], none⟩] [0, 3, 4, 11] [7])
   (.cond (.t 11)
    .skip
    (.exit 0)))
  (.seq
   (.block 1
    (.reg [] [⟨some 14, .move, [.t 3], none⟩,
      ⟨some 15, .move, [.t 4], none⟩,
      ⟨some 16, .move, [.t 0], none⟩,
      ⟨some 17, .move, [.t 4], none⟩,
      ⟨some 18, .iaddr 1, [.t 16, .t 17], none⟩,
      ⟨some 19, .load none false, [.t 18], none⟩,
      ⟨some 20, .iaddr 1, [.t 14, .t 15], none⟩,
      ⟨none, .store 1 true, [.t 20, .t 19], none⟩] [0, 3, 4] [7]))
   (.reg [] [⟨some 12, .move, [.t 4], none⟩,
     ⟨some 13, .bin .add, [.t 12, .k (.i 1)], none⟩,
     ⟨some 4, .move, [.t 13], none⟩] [0, 3, 4] [7])))
def c8l0 : AC := b8l0
theorem r8l0 (call lp s) : run call lp c8l0 s = run call lp b8l0 s := rfl
/-- laws.toIntS -/
def c8 : AC :=
 (.seq
  (.reg [] [⟨some 2, .move, [.k (.nils)], none⟩] [0] [])
  (.seq
   (.reg [] [⟨some 5, .move, [.t 0], none⟩,
     ⟨some 6, .len, [.t 5], none⟩,
     ⟨some 7, .mkslice 1 (.i 0), [.t 6, .t 6], none⟩,
     ⟨some 3, .move, [.t 7], none⟩] [0, 3] [7])
   (.seq
    (.seq
     (.reg [] [⟨some 4, .move, [.k (.i 0)], none⟩] [0, 3, 4] [7])
     (.block 0
      (.loop [0, 3, 4] [7] c8l0)))
    (.seq
     (.reg [] [⟨some 21, .move, [.t 3], none⟩,
       ⟨some 2, .move, [.t 21], none⟩] [2] [7])
     .ret))))
def a8 : AF := ⟨c8, [.tmp 2]⟩
/-- spec.l6In -/
def c40 : AC :=
 (.seq
  (.reg [] [⟨some 6, .move, [.k (.b false)], none⟩] [0, 1, 2] [])
  (.seq
   (.reg [] [⟨some 7, .move, [.t 0], none⟩,
     ⟨some 8, .move, [.t 1], none⟩,
     ⟨some 9, .bin .ge, [.t 7, .t 8], none⟩,
     ⟨some 10, .move, [.t 9], none⟩,
     ⟨some 11, .move, [.t 0], some (10, true)⟩,
     ⟨some 12, .move, [.t 2], some (10, true)⟩,
     ⟨some 13, .bin .le, [.t 11, .t 12], some (10, true)⟩,
     ⟨some 14, .pick, [.t 10, .t 13, .k (.b false)], none⟩,
     ⟨some 6, .move, [.t 14], none⟩] [6] [])
   .ret))
def a40 : AF := ⟨c40, [.tmp 6]⟩
/-- spec.l13Name -/
def c54 : AC :=
 (.seq
  (.reg [] [⟨some 2, .move, [.k (.b false)], none⟩] [0] [])
  (.seq
   (.reg [] [⟨some 3, .move, [.t 0], none⟩,
     ⟨some 4, .call [] false, [.f 40, .t 3, .k (.i 0), .k (.i 29)], none⟩,
     ⟨some 2, .move, [.t 4], none⟩] [2] [])
   .ret))
def a54 : AF := ⟨c54, [.tmp 2]⟩
def b41l0 : AC :=
 (.seq
  (.seq
   (.reg [] [⟨some 70, .move, [.t 6], none⟩,
     ⟨some 71, .move, [.t 3], none⟩,
     ⟨some 72, .bin .lt, [.t 70, .t 71], none⟩] [1, 3, 5, 6, 72] [1])
   (.cond (.t 72)
    .skip
    (.exit 1)))
  (.seq
   (.block 2
    (.seq
     (.reg [] [⟨some 75, .faddr 3, [.t 1], none⟩,
       ⟨some 76, .load none false, [.t 75], none⟩,
       ⟨some 77, .move, [.t 6], none⟩,
       ⟨some 78, .iaddr 4, [.t 76, .t 77], none⟩,
       ⟨some 79, .load (some 4) false, [.t 78], none⟩,
       ⟨some 80, .call [] false, [.f 41, .t 79], none⟩,
       ⟨some 7, .move, [.t 80], none⟩] [1, 3, 5, 6, 7] [1])
     (.seq
      (.seq
       (.reg [] [⟨some 81, .move, [.t 7], none⟩,
         ⟨some 82, .bin .eq, [.t 81, .k (.i 0)], none⟩] [1, 3, 5, 6, 7, 82] [1])
       (.cond (.t 82)
        (.seq
         (.reg [] [⟨some 2, .move, [.k (.i 0)], none⟩] [2] [])
         .ret)
        .skip))
      (.reg [] [⟨some 83, .move, [.t 5], none⟩,
        ⟨some 84, .move, [.t 7], none⟩,
        ⟨some 85, .bin .add, [.t 83, .t 84], none⟩,
        ⟨some 86, .min2, [.k (.i 1000), .t 85], none⟩,
        ⟨some 5, .move, [.t 86], none⟩] [1, 3, 5, 6] [1]))))
   (.reg [] [⟨some 73, .move, [.t 6], none⟩,
     ⟨some 74, .bin .add, [.t 73, .k (.i 1)], none⟩,
     ⟨some 6, .move, [.t 74], none⟩] [1, 3, 5, 6] [1])))
def c41l0 : AC := b41l0
theorem r41l0 (call lp s) : run call lp c41l0 s = run call lp b41l0 s := rfl
/-- spec.l13Nodes -/
def c41 : AC :=
 (.seq
  (.reg [] [⟨some 1, .box, [.t 0], none⟩,
    ⟨some 2, .move, [.k (.i 0)], none⟩] [1] [1])
  (.seq
   (.reg [] [⟨some 3, .move, [.k (.i 1)], none⟩] [1, 3] [1])
   (.seq
    (.reg [] [⟨some 8, .faddr 1, [.t 1], none⟩,
      ⟨some 9, .load none false, [.t 8], none⟩,
      ⟨some 10, .call [] false, [.f 54, .t 9], none⟩,
      ⟨some 11, .move, [.t 10], none⟩,
      ⟨some 12, .faddr 2, [.t 1], some (11, true)⟩,
      ⟨some 13, .load none false, [.t 12], some (11, true)⟩,
      ⟨some 14, .call [] false, [.f 54, .t 13], some (11, true)⟩,
      ⟨some 15, .pick, [.t 11, .t 14, .k (.b false)], none⟩,
      ⟨some 4, .move, [.t 15], none⟩] [1, 3, 4] [1])
    (.seq
     (.seq
      (.reg [] [⟨some 16, .faddr 0, [.t 1], none⟩,
        ⟨some 17, .load none false, [.t 16], none⟩] [1, 3, 4, 17] [1])
      (.block 0
       (.seq
        (.reg [] [⟨some 19, .bin .eq, [.t 17, .k (.i 0)], none⟩,
          ⟨some 18, .move, [.t 19], none⟩] [1, 3, 4, 17, 18] [1])
        (.cond (.t 18)
         (.seq
          (.reg [] [⟨some 3, .move, [.k (.i 0)], none⟩] [1, 3] [1])
          (.reg [] [⟨some 20, .faddr 1, [.t 1], none⟩,
            ⟨some 21, .load none false, [.t 20], none⟩,
            ⟨some 22, .bin .eq, [.t 21, .k (.i 0)], none⟩,
            ⟨some 23, .move, [.t 22], none⟩,
            ⟨some 24, .faddr 2, [.t 1], some (23, true)⟩,
            ⟨some 25, .load none false, [.t 24], some (23, true)⟩,
            ⟨some 26, .bin .eq, [.t 25, .k (.i 0)], some (23, true)⟩,
            ⟨some 27, .pick, [.t 23, .t 26, .k (.b false)], none⟩,
            ⟨some 4, .move, [.t 27], none⟩] [1, 3, 4] [1]))
         (.seq
          (.reg [] [⟨some 29, .bin .eq, [.t 17, .k (.i 3)], none⟩,
            ⟨some 28, .move, [.t 29], none⟩] [1, 3, 4, 17, 28] [1])
          (.cond (.t 28)
           (.reg [] [⟨some 30, .faddr 1, [.t 1], none⟩,
             ⟨some 31, .load none false, [.t 30], none⟩,
             ⟨some 32, .bin .eq, [.t 31, .k (.i 0)], none⟩,
             ⟨some 33, .move, [.t 32], none⟩,
             ⟨some 34, .faddr 2, [.t 1], some (33, true)⟩,
             ⟨some 35, .load none false, [.t 34], some (33, true)⟩,
             ⟨some 36, .bin .eq, [.t 35, .k (.i 0)], some (33, true)⟩,
             ⟨some 37, .pick, [.t 33, .t 36, .k (.b false)], none⟩,
             ⟨some 4, .move, [.t 37], none⟩] [1, 3, 4] [1])
           (.seq
            (.seq
             (.reg [] [⟨some 39, .bin .eq, [.t 17, .k (.i 4)], none⟩,
               ⟨some 38, .move, [.t 39], none⟩] [1, 3, 4, 17, 38] [1])
             (.cond (.t 38)
              .skip
              (.reg [] [⟨some 40, .bin .eq, [.t 17, .k (.i 5)], none⟩,
                ⟨some 38, .move, [.t 40], none⟩] [1, 3, 4, 17, 38] [1])))
            (.cond (.t 38)
             (.seq
              (.reg [] [⟨some 3, .move, [.k (.i 2)], none⟩] [1, 3] [1])
              (.reg [] [⟨some 41, .faddr 1, [.t 1], none⟩,
                ⟨some 42, .load none false, [.t 41], none⟩,
                ⟨some 43, .bin .eq, [.t 42, .k (.i 0)], none⟩,
                ⟨some 44, .move, [.t 43], none⟩,
                ⟨some 45, .faddr 2, [.t 1], some (44, true)⟩,
                ⟨some 46, .load none false, [.t 45], some (44, true)⟩,
                ⟨some 47, .bin .eq, [.t 46, .k (.i 0)], some (44, true)⟩,
                ⟨some 48, .pick, [.t 44, .t 47, .k (.b false)], none⟩,
                ⟨some 4, .move, [.t 48], none⟩] [1, 3, 4] [1]))
             (.seq
              (.reg [] [⟨some 50, .bin .eq, [.t 17, .k (.i 6)], none⟩,
                ⟨some 49, .move, [.t 50], none⟩] [1, 3, 4, 17, 49] [1])
              (.cond (.t 49)
               (.reg [] [⟨some 51, .move, [.t 4], none⟩,
                 ⟨some 52, .move, [.t 51], none⟩,
                 ⟨some 53, .faddr 2, [.t 1], some (52, true)⟩,
                 ⟨some 54, .load none false, [.t 53], some (52, true)⟩,
                 ⟨some 55, .bin .lt, [.t 54, .k (.i 3)], some (52, true)⟩,
                 ⟨some 56, .pick, [.t 52, .t 55, .k (.b false)], none⟩,
                 ⟨some 4, .move, [.t 56], none⟩] [1, 3, 4] [1])
               (.seq
                (.seq
                 (.reg [] [⟨some 58, .bin .eq, [.t 17, .k (.i 1)], none⟩,
                   ⟨some 57, .move, [.t 58], none⟩] [1, 3, 4, 17, 57] [1])
                 (.cond (.t 57)
                  .skip
                  (.seq
                   (.reg [] [⟨some 59, .bin .eq, [.t 17, .k (.i 2)], none⟩,
                     ⟨some 57, .move, [.t 59], none⟩] [1, 3, 4, 17, 57] [1])
                   (.cond (.t 57)
                    .skip
                    (.reg [] [⟨some 60, .bin .eq, [.t 17, .k (.i 7)], none⟩,
                      ⟨some 57, .move, [.t 60], none⟩] [1, 3, 4, 57] [1])))))
                (.cond (.t 57)
                 .skip
                 (.seq
                  (.reg [] [⟨some 2, .move, [.k (.i 0)], none⟩] [2] [])
                  .ret)))))))))))))
     (.seq
      (.seq
       (.reg [] [⟨some 61, .move, [.t 4], none⟩,
         ⟨some 62, .not, [.t 61], none⟩,
         ⟨some 63, .move, [.t 62], none⟩,
         ⟨some 64, .faddr 3, [.t 1], some (63, false)⟩,
         ⟨some 65, .load none false, [.t 64], some (63, false)⟩,
         ⟨some 66, .len, [.t 65], some (63, false)⟩,
         ⟨some 67, .move, [.t 3], some (63, false)⟩,
         ⟨some 68, .bin .ne, [.t 66, .t 67], some (63, false)⟩,
         ⟨some 69, .pick, [.t 63, .k (.b true), .t 68], none⟩] [1, 3, 69] [1])
       (.cond (.t 69)
        (.seq
         (.reg [] [⟨some 2, .move, [.k (.i 0)], none⟩] [2] [])
         .ret)
        .skip))
      (.seq
       (.reg [] [⟨some 5, .move, [.k (.i 1)], none⟩] [1, 3, 5] [1])
       (.seq
        (.seq
         (.reg [] [⟨some 6, .move, [.k (.i 0)], none⟩] [1, 3, 5, 6] [1])
         (.block 1
          (.loop [1, 3, 5, 6] [1] c41l0)))
        (.seq
         (.reg [] [⟨some 87, .move, [.t 5], none⟩,
           ⟨some 2, .move, [.t 87], none⟩] [2] [])
         .ret))))))))
def a41 : AF := ⟨c41, [.tmp 2]⟩
/-- spec.PiOk -/
def c22 : AC :=
 (.seq
  (.reg [] [⟨some 1, .box, [.t 0], none⟩,
    ⟨some 2, .move, [.k (.b false)], none⟩] [1] [1])
  (.seq
   (.reg [] [⟨some 3, .load (some 4) false, [.t 1], none⟩,
     ⟨some 4, .call [] false, [.f 41, .t 3], none⟩,
     ⟨some 5, .call [] false, [.f 40, .t 4, .k (.i 1), .k (.i 14)], none⟩,
     ⟨some 2, .move, [.t 5], none⟩] [2] [])
   .ret))
def a22 : AF := ⟨c22, [.tmp 2]⟩
/-- spec.l13Uses -/
def c52 : AC :=
 (.seq
  (.reg [] [⟨some 2, .box, [.t 0], none⟩,
    ⟨some 4, .move, [.k (.b false)], none⟩] [1, 2] [2])
  (.seq
   (.seq
    (.reg [] [⟨some 5, .faddr 0, [.t 2], none⟩,
      ⟨some 6, .load none false, [.t 5], none⟩] [1, 2, 6] [2])
    (.block 0
     (.seq
      (.seq
       (.reg [] [⟨some 8, .bin .eq, [.t 6, .k (.i 1)], none⟩,
         ⟨some 7, .move, [.t 8], none⟩] [1, 2, 6, 7] [2])
       (.cond (.t 7)
        .skip
        (.reg [] [⟨some 9, .bin .eq, [.t 6, .k (.i 7)], none⟩,
          ⟨some 7, .move, [.t 9], none⟩] [1, 2, 6, 7] [2])))
      (.cond (.t 7)
       (.seq
        (.reg [] [⟨some 10, .faddr 1, [.t 2], none⟩,
          ⟨some 11, .load none false, [.t 10], none⟩,
          ⟨some 12, .move, [.t 1], none⟩,
          ⟨some 13, .bin .eq, [.t 11, .t 12], none⟩,
          ⟨some 14, .move, [.t 13], none⟩,
          ⟨some 15, .faddr 2, [.t 2], some (14, false)⟩,
          ⟨some 16, .load none false, [.t 15], some (14, false)⟩,
          ⟨some 17, .move, [.t 1], some (14, false)⟩,
          ⟨some 18, .bin .eq, [.t 16, .t 17], some (14, false)⟩,
          ⟨some 19, .pick, [.t 14, .k (.b true), .t 18], none⟩,
          ⟨some 4, .move, [.t 19], none⟩] [4] [])
        .ret)
       (.seq
        (.reg [] [⟨some 21, .bin .eq, [.t 6, .k (.i 2)], none⟩,
          ⟨some 20, .move, [.t 21], none⟩] [1, 2, 20] [2])
        (.cond (.t 20)
         (.seq
          (.reg [] [⟨some 22, .faddr 1, [.t 2], none⟩,
            ⟨some 23, .load none false, [.t 22], none⟩,
            ⟨some 24, .move, [.t 1], none⟩,
            ⟨some 25, .bin .eq, [.t 23, .t 24], none⟩,
            ⟨some 4, .move, [.t 25], none⟩] [4] [])
          .ret)
         .skip))))))
   (.seq
    (.reg [] [⟨some 4, .move, [.k (.b false)], none⟩] [4] [])
    .ret)))
def a52 : AF := ⟨c52, [.tmp 4]⟩
/-- spec.l13Binds -/
def c53 : AC :=
 (.seq
  (.reg [] [⟨some 1, .box, [.t 0], none⟩,
    ⟨some 2, .move, [.k (.i 0)], none⟩] [1] [1])
  (.seq
   (.seq
    (.reg [] [⟨some 3, .faddr 0, [.t 1], none⟩,
      ⟨some 4, .load none false, [.t 3], none⟩] [1, 4] [1])
    (.block 0
     (.seq
      (.reg [] [⟨some 6, .bin .eq, [.t 4, .k (.i 2)], none⟩,
        ⟨some 5, .move, [.t 6], none⟩] [1, 4, 5] [1])
      (.cond (.t 5)
       (.seq
        (.reg [] [⟨some 7, .faddr 2, [.t 1], none⟩,
          ⟨some 8, .load none false, [.t 7], none⟩,
          ⟨some 2, .move, [.t 8], none⟩] [2] [])
        .ret)
       (.seq
        (.reg [] [⟨some 10, .bin .eq, [.t 4, .k (.i 6)], none⟩,
          ⟨some 9, .move, [.t 10], none⟩] [1, 9] [1])
        (.cond (.t 9)
         (.seq
          (.reg [] [⟨some 11, .faddr 1, [.t 1], none⟩,
            ⟨some 12, .load none false, [.t 11], none⟩,
            ⟨some 2, .move, [.t 12], none⟩] [2] [])
          .ret)
         .skip))))))
   (.seq
    (.reg [] [⟨some 2, .move, [.k (.i (-1))], none⟩] [2] [])
    .ret)))
def a53 : AF := ⟨c53, [.tmp 2]⟩
def b39l0 : AC :=
 (.seq
  (.seq
   (.reg [] [⟨some 9, .move, [.t 5], none⟩,
     ⟨some 10, .faddr 3, [.t 2], none⟩,
     ⟨some 11, .load none false, [.t 10], none⟩,
     ⟨some 12, .len, [.t 11], none⟩,
     ⟨some 13, .bin .lt, [.t 9, .t 12], none⟩,
     ⟨some 14, .move, [.t 13], none⟩,
     ⟨some 15, .load (some 4) false, [.t 2], some (14, true)⟩,
     ⟨some 16, .call [] false, [.f 53, .t 15], some (14, true)⟩,
     ⟨some 17, .move, [.t 1], some (14, true)⟩,
     ⟨some 18, .bin .ne, [.t 16, .t 17], some (14, true)⟩,
     ⟨some 19, .pick, [.t 14, .t 18, .k (.b false)], none⟩] [1, 2, 5, 19] [2])
   (.cond (.t 19)
    .skip
    (.exit 0)))
  (.seq
   (.block 1
    (.seq
     (.reg [] [⟨some 22, .faddr 3, [.t 2], none⟩,
       ⟨some 23, .load none false, [.t 22], none⟩,
       ⟨some 24, .move, [.t 5], none⟩,
       ⟨some 25, .iaddr 4, [.t 23, .t 24], none⟩,
       ⟨some 26, .load (some 4) false, [.t 25], none⟩,
       ⟨some 27, .move, [.t 1], none⟩,
       ⟨some 28, .call [] false, [.f 39, .t 26, .t 27], none⟩] [1, 2, 5, 28] [2])
     (.cond (.t 28)
      (.seq
       (.reg [] [⟨some 4, .move, [.k (.b true)], none⟩] [4] [])
       .ret)
      .skip)))
   (.reg [] [⟨some 20, .move, [.t 5], none⟩,
     ⟨some 21, .bin .add, [.t 20, .k (.i 1)], none⟩,
     ⟨some 5, .move, [.t 21], none⟩] [1, 2, 5] [2])))
def c39l0 : AC := b39l0
theorem r39l0 (call lp s) : run call lp c39l0 s = run call lp b39l0 s := rfl
/-- spec.l13Free -/
def c39 : AC :=
 (.seq
  (.reg [] [⟨some 2, .box, [.t 0], none⟩,
    ⟨some 4, .move, [.k (.b false)], none⟩] [1, 2] [2])
  (.seq
   (.seq
    (.reg [] [⟨some 6, .load (some 4) false, [.t 2], none⟩,
      ⟨some 7, .move, [.t 1], none⟩,
      ⟨some 8, .call [] false, [.f 52, .t 6, .t 7], none⟩] [1, 2, 8] [2])
    (.cond (.t 8)
     (.seq
      (.reg [] [⟨some 4, .move, [.k (.b true)], none⟩] [4] [])
      .ret)
     .skip))
   (.seq
    (.seq
     (.reg [] [⟨some 5, .move, [.k (.i 0)], none⟩] [1, 2, 5] [2])
     (.block 0
      (.loop [1, 2, 5] [2] c39l0)))
    (.seq
     (.reg [] [⟨some 4, .move, [.k (.b false)], none⟩] [4] [])
     .ret))))
def a39 : AF := ⟨c39, [.tmp 4]⟩
def b21l0 : AC :=
 (.seq
  (.seq
   (.reg [] [⟨some 6, .move, [.t 4], none⟩,
     ⟨some 7, .bin .lt, [.t 6, .k (.i 30)], none⟩,
     ⟨some 8, .move, [.t 7], none⟩,
     ⟨some 9, .load (some 4) false, [.t 1], some (8, true)⟩,
     ⟨some 10, .call [] false, [.f 22, .t 9], some (8, true)⟩,
     ⟨some 11, .pick, [.t 8, .t 10, .k (.b false)], none⟩] [1, 3, 4, 11] [1, 5, 20])
   (.cond (.t 11)
    .skip
    (.exit 0)))
  (.seq
   (.block 1
    (.seq
     (.reg [] [⟨some 14, .load (some 4) false, [.t 1], none⟩,
       ⟨some 15, .move, [.t 4], none⟩,
       ⟨some 16, .call [] false, [.f 39, .t 14, .t 15], none⟩] [1, 3, 4, 16] [1, 5, 20])
     (.cond (.t 16)
      (.reg [] [⟨some 17, .move, [.t 3], none⟩,
        ⟨some 18, .move, [.t 4], none⟩,
        ⟨some 19, .bslice 1 true, [.t 18], none⟩,
        ⟨some 20, .append 1 true, [.t 17, .t 19], none⟩,
        ⟨some 3, .move, [.t 20], none⟩] [1, 3, 4] [1, 5, 20])
      .skip)))
   (.reg [] [⟨some 12, .move, [.t 4], none⟩,
     ⟨some 13, .bin .add, [.t 12, .k (.i 1)], none⟩,
     ⟨some 4, .move, [.t 13], none⟩] [1, 3, 4] [1, 5, 20])))
def c21l0 : AC := b21l0
theorem r21l0 (call lp s) : run call lp c21l0 s = run call lp b21l0 s := rfl
/-- spec.PiFree -/
def c21 : AC :=
 (.seq
  (.reg [] [⟨some 1, .box, [.t 0], none⟩,
    ⟨some 2, .move, [.k (.nils)], none⟩] [1] [1])
  (.seq
   (.reg [] [⟨some 5, .bslice 1 true, [], none⟩,
     ⟨some 3, .move, [.t 5], none⟩] [1, 3] [1, 5, 20])
   (.seq
    (.seq
     (.reg [] [⟨some 4, .move, [.k (.i 0)], none⟩] [1, 3, 4] [1, 5, 20])
     (.block 0
      (.loop [1, 3, 4] [1, 5, 20] c21l0)))
    (.seq
     (.reg [] [⟨some 21, .move, [.t 3], none⟩,
       ⟨some 2, .move, [.t 21], none⟩] [2] [5, 20])
     .ret))))
def a21 : AF := ⟨c21, [.tmp 2]⟩
def b23l0 : AC :=
 (.seq
  (.seq
   (.reg [] [⟨some 6, .move, [.t 5], none⟩,
     ⟨some 7, .move, [.t 0], none⟩,
     ⟨some 8, .len, [.t 7], none⟩,
     ⟨some 9, .bin .lt, [.t 6, .t 8], none⟩] [0, 1, 5, 9] [])
   (.cond (.t 9)
    .skip
    (.exit 0)))
  (.seq
   (.block 1
    (.seq
     (.reg [] [⟨some 12, .move, [.t 0], none⟩,
       ⟨some 13, .move, [.t 5], none⟩,
       ⟨some 14, .iaddr 1, [.t 12, .t 13], none⟩,
       ⟨some 15, .load none false, [.t 14], none⟩,
       ⟨some 16, .call [] false, [.f 40, .t 15, .k (.i 0), .k (.i 2)], none⟩,
       ⟨some 17, .not, [.t 16], none⟩] [0, 1, 5, 17] [])
     (.cond (.t 17)
      (.seq
       (.reg [] [⟨some 4, .move, [.k (.b false)], none⟩] [4] [])
       .ret)
      .skip)))
   (.reg [] [⟨some 10, .move, [.t 5], none⟩,
     ⟨some 11, .bin .add, [.t 10, .k (.i 1)], none⟩,
     ⟨some 5, .move, [.t 11], none⟩] [0, 1, 5] [])))
def c23l0 : AC := b23l0
theorem r23l0 (call lp s) : run call lp c23l0 s = run call lp b23l0 s := rfl
/-- spec.l16Numbers -/
def c23 : AC :=
 (.seq
  (.reg [] [⟨some 4, .move, [.k (.b false)], none⟩] [0, 1] [])
  (.seq
   (.seq
    (.reg [] [⟨some 5, .move, [.k (.i 0)], none⟩] [0, 1, 5] [])
    (.block 0
     (.loop [0, 1, 5] [] c23l0)))
   (.seq
    (.reg [] [⟨some 18, .move, [.t 0], none⟩,
      ⟨some 19, .len, [.t 18], none⟩,
      ⟨some 20, .move, [.t 1], none⟩,
      ⟨some 21, .bin .eq, [.t 19, .t 20], none⟩,
      ⟨some 4, .move, [.t 21], none⟩] [4] [])
    .ret)))
def a23 : AF := ⟨c23, [.tmp 4]⟩
def b34l0 : AC :=
 (.seq
  (.seq
   (.reg [] [⟨some 65, .move, [.t 8], none⟩,
     ⟨some 66, .faddr 3, [.t 3], none⟩,
     ⟨some 67, .load none false, [.t 66], none⟩,
     ⟨some 68, .len, [.t 67], none⟩,
     ⟨some 69, .bin .lt, [.t 65, .t 68], none⟩] [2, 3, 7, 8, 69] [3, 9, 11])
   (.cond (.t 69)
    .skip
    (.exit 1)))
  (.seq
   (.block 2
    (.seq
     (.reg [] [⟨some 72, .faddr 3, [.t 3], none⟩,
       ⟨some 73, .load none false, [.t 72], none⟩,
       ⟨some 74, .move, [.t 8], none⟩,
       ⟨some 75, .iaddr 4, [.t 73, .t 74], none⟩,
       ⟨some 76, .load (some 4) false, [.t 75], none⟩,
       ⟨some 77, .move, [.t 7], none⟩,
       ⟨some 78, .move, [.t 2], none⟩,
       ⟨some 79, .call [] false, [.f 34, .t 76, .t 77, .t 78], none⟩,
       ⟨some 80, .not, [.t 79], none⟩] [2, 3, 7, 8, 80] [3, 9, 11])
     (.cond (.t 80)
      (.seq
       (.reg [] [⟨some 6, .move, [.k (.b false)], none⟩] [6] [])
       .ret)
      .skip)))
   (.reg [] [⟨some 70, .move, [.t 8], none⟩,
     ⟨some 71, .bin .add, [.t 70, .k (.i 1)], none⟩,
     ⟨some 8, .move, [.t 71], none⟩] [2, 3, 7, 8] [3, 9, 11])))
def c34l0 : AC := b34l0
theorem r34l0 (call lp s) : run call lp c34l0 s = run call lp b34l0 s := rfl
/-- spec.l16Sorted -/
def c34 : AC :=
 (.seq
  (.reg [] [⟨some 3, .box, [.t 0], none⟩,
    ⟨some 6, .move, [.k (.b false)], none⟩] [1, 2, 3] [3])
  (.seq
   (.reg [] [⟨some 9, .bslice 1 true, [], none⟩,
     ⟨some 10, .move, [.t 1], none⟩,
     ⟨some 11, .append 1 true, [.t 9, .t 10], none⟩,
     ⟨some 7, .move, [.t 11], none⟩] [1, 2, 3, 7] [3, 9, 11])
   (.seq
    (.seq
     (.reg [] [⟨some 12, .faddr 0, [.t 3], none⟩,
       ⟨some 13, .load none false, [.t 12], none⟩] [1, 2, 3, 7, 13] [3, 9, 11])
     (.block 0
      (.seq
       (.reg [] [⟨some 15, .bin .eq, [.t 13, .k (.i 1)], none⟩,
         ⟨some 14, .move, [.t 15], none⟩] [1, 2, 3, 7, 13, 14] [3, 9, 11])
       (.cond (.t 14)
        (.seq
         (.reg [0, 1, 2, 3, 4, 5, 6, 7, 8, 9, 10, 11, 12, 13] [⟨some 16, .move, [.t 1], none⟩,
           ⟨some 17, .faddr 2, [.t 3], none⟩,
           ⟨some 18, .load none false, [.t 17], none⟩,
           ⟨some 19, .iaddr 1, [.t 16, .t 18], none⟩,
           ⟨some 20, .load none false, [.t 19], none⟩,
           ⟨some 21, .move, [.t 2], none⟩,
           ⟨some 22, .move, [.t 1], none⟩,
           ⟨some 23, .faddr 1, [.t 3], none⟩,
           ⟨some 24, .load none false, [.t 23], none⟩,
           ⟨some 25, .iaddr 1, [.t 22, .t 24], none⟩,
           ⟨some 26, .load none false, [.t 25], none⟩,
           ⟨some 27, .iaddr 1, [.t 21, .t 26], none⟩,
           ⟨some 28, .load none false, [.t 27], none⟩,
           ⟨some 29, .bin .ne, [.t 20, .t 28], none⟩] [2, 3, 7, 29] [3, 9, 11])
         (.cond (.t 29)
          (.seq
           (.reg [] [⟨some 6, .move, [.k (.b false)], none⟩] [6] [])
           .ret)
          .skip))
        (.seq
         (.reg [] [⟨some 31, .bin .eq, [.t 13, .k (.i 2)], none⟩,
           ⟨some 30, .move, [.t 31], none⟩] [1, 2, 3, 7, 13, 30] [3, 9, 11])
         (.cond (.t 30)
          (.reg [0, 1, 2, 3, 4, 5, 6, 7, 8, 9, 10, 11, 12] [⟨some 32, .move, [.t 7], none⟩,
            ⟨some 33, .faddr 2, [.t 3], none⟩,
            ⟨some 34, .load none false, [.t 33], none⟩,
            ⟨some 35, .move, [.t 2], none⟩,
            ⟨some 36, .move, [.t 1], none⟩,
            ⟨some 37, .faddr 1, [.t 3], none⟩,
            ⟨some 38, .load none false, [.t 37], none⟩,
            ⟨some 39, .iaddr 1, [.t 36, .t 38], none⟩,
            ⟨some 40, .load none false, [.t 39], none⟩,
            ⟨some 41, .iaddr 1, [.t 35, .t 40], none⟩,
            ⟨some 42, .load none false, [.t 41], none⟩,
            ⟨some 43, .iaddr 1, [.t 32, .t 34], none⟩,
            ⟨none, .store 1 true, [.t 43, .t 42], none⟩] [2, 3, 7] [3, 9, 11])
          (.seq
           (.reg [] [⟨some 45, .bin .eq, [.t 13, .k (.i 6)], none⟩,
             ⟨some 44, .move, [.t 45], none⟩] [1, 2, 3, 7, 13, 44] [3, 9, 11])
           (.cond (.t 44)
            (.reg [] [⟨some 46, .move, [.t 7], none⟩,
              ⟨some 47, .faddr 1, [.t 3], none⟩,
              ⟨some 48, .load none false, [.t 47], none⟩,
              ⟨some 49, .faddr 2, [.t 3], none⟩,
              ⟨some 50, .load none false, [.t 49], none⟩,
              ⟨some 51, .iaddr 1, [.t 46, .t 48], none⟩,
              ⟨none, .store 1 true, [.t 51, .t 50], none⟩] [2, 3, 7] [3, 9, 11])
            (.seq
             (.reg [] [⟨some 53, .bin .eq, [.t 13, .k (.i 7)], none⟩,
               ⟨some 52, .move, [.t 53], none⟩] [1, 2, 3, 7, 52] [3, 9, 11])
             (.cond (.t 52)
              (.seq
               (.reg [0, 1, 2, 3, 4, 5, 6, 7, 8, 9, 10] [⟨some 54, .move, [.t 1], none⟩,
                 ⟨some 55, .faddr 1, [.t 3], none⟩,
                 ⟨some 56, .load none false, [.t 55], none⟩,
                 ⟨some 57, .iaddr 1, [.t 54, .t 56], none⟩,
                 ⟨some 58, .load none false, [.t 57], none⟩,
                 ⟨some 59, .move, [.t 1], none⟩,
                 ⟨some 60, .faddr 2, [.t 3], none⟩,
                 ⟨some 61, .load none false, [.t 60], none⟩,
                 ⟨some 62, .iaddr 1, [.t 59, .t 61], none⟩,
                 ⟨some 63, .load none false, [.t 62], none⟩,
                 ⟨some 64, .bin .ne, [.t 58, .t 63], none⟩] [2, 3, 7, 64] [3, 9, 11])
               (.cond (.t 64)
                (.seq
                 (.reg [] [⟨some 6, .move, [.k (.b false)], none⟩] [6] [])
                 .ret)
                .skip))
              .skip))))))))))
    (.seq
     (.seq
      (.reg [] [⟨some 8, .move, [.k (.i 0)], none⟩] [2, 3, 7, 8] [3, 9, 11])
      (.block 1
       (.loop [2, 3, 7, 8] [3, 9, 11] c34l0)))
     (.seq
      (.reg [] [⟨some 6, .move, [.k (.b true)], none⟩] [6] [])
      .ret)))))
def a34 : AF := ⟨c34, [.tmp 6]⟩
def b24l0 : AC :=
 (.seq
  (.seq
   (.reg [] [⟨some 20, .move, [.t 11], none⟩,
     ⟨some 21, .bin .lt, [.t 20, .k (.i 3)], none⟩] [1, 2, 3, 4, 5, 11, 21] [5])
   (.cond (.t 21)
    .skip
    (.exit 0)))
  (.seq
   (.block 1
    (.seq
     (.reg [] [⟨some 24, .move, [.t 3], none⟩,
       ⟨some 25, .move, [.t 1], none⟩,
       ⟨some 26, .move, [.t 2], none⟩,
       ⟨some 27, .iaddr 1, [.t 25, .t 26], none⟩,
       ⟨some 28, .load none false, [.t 27], none⟩,
       ⟨some 29, .move, [.t 11], none⟩,
       ⟨some 30, .iaddr 1, [.t 24, .t 28], none⟩,
       ⟨none, .store 1 true, [.t 30, .t 29], none⟩] [1, 2, 3, 4, 5, 11] [5])
     (.seq
      (.reg [] [⟨some 31, .load (some 4) false, [.t 5], none⟩,
        ⟨some 32, .move, [.t 1], none⟩,
        ⟨some 33, .move, [.t 2], none⟩,
        ⟨some 34, .bin .add, [.t 33, .k (.i 1)], none⟩,
        ⟨some 35, .move, [.t 3], none⟩,
        ⟨some 36, .move, [.t 4], none⟩,
        ⟨some 37, .call [3] false, [.f 24, .t 31, .t 32, .t 34, .t 35, .t 36], none⟩] [1, 2, 3, 4, 5, 11, 37] [5])
      (.cond (.t 37)
       (.seq
        (.reg [] [⟨some 10, .move, [.k (.b true)], none⟩] [10] [])
        .ret)
       .skip))))
   (.reg [] [⟨some 22, .move, [.t 11], none⟩,
     ⟨some 23, .bin .add, [.t 22, .k (.i 1)], none⟩,
     ⟨some 11, .move, [.t 23], none⟩] [1, 2, 3, 4, 5, 11] [5])))
def c24l0 : AC := b24l0
theorem r24l0 (call lp s) : run call lp c24l0 s = run call lp b24l0 s := rfl
/-- spec.l16Guess -/
def c24 : AC :=
 (.seq
  (.reg [] [⟨some 5, .box, [.t 0], none⟩,
    ⟨some 10, .move, [.k (.b false)], none⟩] [1, 2, 3, 4, 5] [5])
  (.seq
   (.seq
    (.reg [] [⟨some 12, .move, [.t 2], none⟩,
      ⟨some 13, .move, [.t 1], none⟩,
      ⟨some 14, .len, [.t 13], none⟩,
      ⟨some 15, .bin .eq, [.t 12, .t 14], none⟩] [1, 2, 3, 4, 5, 15] [5])
    (.cond (.t 15)
     (.seq
      (.reg [] [⟨some 16, .load (some 4) false, [.t 5], none⟩,
        ⟨some 17, .move, [.t 3], none⟩,
        ⟨some 18, .move, [.t 4], none⟩,
        ⟨some 19, .call [] false, [.f 34, .t 16, .t 17, .t 18], none⟩,
        ⟨some 10, .move, [.t 19], none⟩] [10] [])
      .ret)
     .skip))
   (.seq
    (.seq
     (.reg [] [⟨some 11, .move, [.k (.i 0)], none⟩] [1, 2, 3, 4, 5, 11] [5])
     (.block 0
      (.loop [1, 2, 3, 4, 5, 11] [5] c24l0)))
    (.seq
     (.reg [] [⟨some 38, .move, [.t 3], none⟩,
       ⟨some 39, .move, [.t 1], none⟩,
       ⟨some 40, .move, [.t 2], none⟩,
       ⟨some 41, .iaddr 1, [.t 39, .t 40], none⟩,
       ⟨some 42, .load none false, [.t 41], none⟩,
       ⟨some 43, .iaddr 1, [.t 38, .t 42], none⟩,
       ⟨none, .store 1 true, [.t 43, .k (.i 0)], none⟩] [] [])
     (.seq
      (.reg [] [⟨some 10, .move, [.k (.b false)], none⟩] [10] [])
      .ret)))))
def a24 : AF := ⟨c24, [.tmp 10]⟩
/-- spec.PiGuess -/
def c6 : AC :=
 (.seq
  (.reg [] [⟨some 2, .box, [.t 0], none⟩,
    ⟨some 4, .move, [.k (.nils)], none⟩,
    ⟨some 5, .move, [.k (.b false)], none⟩] [1, 2] [2])
  (.seq
   (.reg [] [⟨some 8, .load (some 4) false, [.t 2], none⟩,
     ⟨some 9, .call [] false, [.f 21, .t 8], none⟩,
     ⟨some 6, .move, [.t 9], none⟩] [1, 2, 6] [2, 9])
   (.seq
    (.reg [] [⟨some 10, .mkslice 1 (.i 0), [.k (.i 30), .k (.i 30)], none⟩,
      ⟨some 7, .move, [.t 10], none⟩] [1, 2, 6, 7] [2, 9, 10])
    (.seq
     (.seq
      (.reg [] [⟨some 11, .load (some 4) false, [.t 2], none⟩,
        ⟨some 12, .call [] false, [.f 22, .t 11], none⟩,
        ⟨some 13, .not, [.t 12], none⟩,
        ⟨some 14, .move, [.t 13], none⟩,
        ⟨some 15, .move, [.t 6], some (14, false)⟩,
        ⟨some 16, .len, [.t 15], some (14, false)⟩,
        ⟨some 17, .bin .gt, [.t 16, .k (.i 6)], some (14, false)⟩,
        ⟨some 18, .pick, [.t 14, .k (.b true), .t 17], none⟩,
        ⟨some 19, .move, [.t 18], none⟩,
        ⟨some 20, .move, [.t 1], some (19, false)⟩,
        ⟨some 21, .call [] false, [.f 23, .t 20, .k (.i 3)], some (19, false)⟩,
        ⟨some 22, .not, [.t 21], some (19, false)⟩,
        ⟨some 23, .pick, [.t 19, .k (.b true), .t 22], none⟩,
        ⟨some 24, .move, [.t 23], none⟩,
        ⟨some 25, .load (some 4) false, [.t 2], some (24, false)⟩,
        ⟨some 26, .move, [.t 6], some (24, false)⟩,
        ⟨some 27, .move, [.t 7], some (24, false)⟩,
        ⟨some 28, .move, [.t 1], some (24, false)⟩,
        ⟨some 29, .call [3] true, [.f 24, .t 25, .t 26, .k (.i 0), .t 27, .t 28], some (24, false)⟩,
        ⟨some 30, .not, [.t 29], some (24, false)⟩,
        ⟨some 31, .pick, [.t 24, .k (.b true), .t 30], none⟩] [7, 31] [10])
      (.cond (.t 31)
       (.seq
        (.reg [] [⟨some 4, .move, [.k (.nils)], none⟩,
          ⟨some 5, .move, [.k (.b false)], none⟩] [4, 5] [10])
        .ret)
       .skip))
     (.seq
      (.reg [] [⟨some 32, .move, [.t 7], none⟩,
        ⟨some 4, .move, [.t 32], none⟩,
        ⟨some 5, .move, [.k (.b true)], none⟩] [4, 5] [10])
      .ret)))))
def a6 : AF := ⟨c6, [.tmp 4, .tmp 5]⟩
def b43l0 : AC :=
 (.seq
  (.reg [] [⟨some 12, .bin .lt, [.t 11, .t 10], none⟩] [1, 5, 9, 10, 11, 12] [])
  (.seq
   (.cond (.t 12)
    .skip
    (.exit 0))
   (.seq
    (.block 1
     (.seq
      (.reg [] [⟨some 13, .iaddr 4, [.t 9, .t 11], none⟩,
        ⟨some 14, .load (some 4) false, [.t 13], none⟩,
        ⟨some 7, .alloc [.i 0, .i 0, .i 0, .nils], [], none⟩,
        ⟨none, .store 4 true, [.t 7, .t 14], none⟩] [1, 5, 7, 9, 10, 11] [7])
      (.seq
       (.seq
        (.reg [] [⟨some 15, .move, [.t 5], none⟩,
          ⟨some 16, .move, [.t 1], none⟩,
          ⟨some 17, .bin .gt, [.t 15, .t 16], none⟩] [1, 5, 7, 9, 10, 11, 17] [7])
        (.cond (.t 17)
         (.seq
          (.reg [] [⟨some 18, .move, [.t 5], none⟩,
            ⟨some 4, .move, [.t 18], none⟩] [4] [])
          .ret)
         .skip))
       (.reg [] [⟨some 19, .move, [.t 5], none⟩,
         ⟨some 20, .load (some 4) false, [.t 7], none⟩,
         ⟨some 21, .move, [.t 1], none⟩,
         ⟨some 22, .move, [.t 5], none⟩,
         ⟨some 23, .bin .sub, [.t 21, .t 22], none⟩,
         ⟨some 24, .call [] false, [.f 43, .t 20, .t 23], none⟩,
         ⟨some 25, .bin .add, [.t 19, .t 24], none⟩,
         ⟨some 5, .move, [.t 25], none⟩] [1, 5, 9, 10, 11] []))))
    (.reg [] [⟨some 26, .bin .add, [.t 11, .k (.i 1)], none⟩,
      ⟨some 11, .move, [.t 26], none⟩] [1, 5, 9, 10, 11] []))))
def c43l0 : AC := b43l0
theorem r43l0 (call lp s) : run call lp c43l0 s = run call lp b43l0 s := rfl
/-- impl.piNodes -/
def c43 : AC :=
 (.seq
  (.reg [] [⟨some 2, .box, [.t 0], none⟩,
    ⟨some 4, .move, [.k (.i 0)], none⟩] [1, 2] [2])
  (.seq
   (.reg [] [⟨some 5, .move, [.k (.i 1)], none⟩] [1, 2, 5] [2])
   (.seq
    (.seq
     (.reg [] [⟨some 8, .faddr 3, [.t 2], none⟩,
       ⟨some 9, .load none false, [.t 8], none⟩,
       ⟨some 10, .len, [.t 9], none⟩,
       ⟨some 11, .move, [.k (.i 0)], none⟩] [1, 5, 9, 10, 11] [])
     (.block 0
      (.loop [1, 5, 9, 10, 11] [] c43l0)))
    (.seq
     (.reg [] [⟨some 27, .move, [.t 5], none⟩,
       ⟨some 4, .move, [.t 27], none⟩] [4] [])
     .ret))))
def a43 : AF := ⟨c43, [.tmp 4]⟩
/-- impl.piName -/
def c57 : AC :=
 (.seq
  (.reg [] [⟨some 2, .move, [.k (.b false)], none⟩] [0] [])
  (.seq
   (.reg [] [⟨some 3, .move, [.t 0], none⟩,
     ⟨some 4, .bin .ge, [.t 3, .k (.i 0)], none⟩,
     ⟨some 5, .move, [.t 4], none⟩,
     ⟨some 6, .move, [.t 0], some (5, true)⟩,
     ⟨some 7, .bin .lt, [.t 6, .k (.i 30)], some (5, true)⟩,
     ⟨some 8, .pick, [.t 5, .t 7, .k (.b false)], none⟩,
     ⟨some 2, .move, [.t 8], none⟩] [2] [])
   .ret))
def a57 : AF := ⟨c57, [.tmp 2]⟩
def b51l0 : AC :=
 (.seq
  (.reg [] [⟨some 9, .bin .lt, [.t 8, .t 7], none⟩] [0, 1, 7, 8, 9] [])
  (.seq
   (.cond (.t 9)
    .skip
    (.exit 0))
   (.seq
    (.block 1
     (.seq
      (.reg [] [⟨some 10, .move, [.t 8], none⟩,
        ⟨some 5, .move, [.t 10], none⟩] [0, 1, 5, 7, 8] [])
      (.seq
       (.reg [] [⟨some 11, .move, [.t 1], none⟩,
         ⟨some 12, .move, [.t 0], none⟩,
         ⟨some 13, .move, [.t 5], none⟩,
         ⟨some 14, .iaddr 4, [.t 12, .t 13], none⟩,
         ⟨some 15, .load (some 4) false, [.t 14], none⟩,
         ⟨some 16, .call [] false, [.t 11, .t 15], none⟩] [0, 1, 5, 7, 8, 16] [])
       (.cond (.t 16)
        (.seq
         (.reg [] [⟨some 17, .move, [.t 5], none⟩,
           ⟨some 4, .move, [.t 17], none⟩] [4] [])
         .ret)
        .skip))))
    (.reg [] [⟨some 18, .bin .add, [.t 8, .k (.i 1)], none⟩,
      ⟨some 8, .move, [.t 18], none⟩] [0, 1, 7, 8] []))))
def c51l0 : AC := b51l0
theorem r51l0 (call lp s) : run call lp c51l0 s = run call lp b51l0 s := rfl
/-- impl.Pi] -/
def c51 : AC :=
 (.seq
  (.reg [] [⟨some 4, .move, [.k (.i 0)], none⟩] [0, 1] [])
  (.seq
   (.seq
    (.reg [] [⟨some 6, .move, [.t 0], none⟩,
      ⟨some 7, .len, [.t 6], none⟩,
      ⟨some 8, .move, [.k (.i 0)], none⟩] [0, 1, 7, 8] [])
    (.block 0
     (.loop [0, 1, 7, 8] [] c51l0)))
   (.seq
    (.reg [] [⟨some 4, .move, [.k (.i (-1))], none⟩] [4] [])
    .ret)))
def a51 : AF := ⟨c51, [.tmp 4]⟩
/-- impl.Pi] -/
def c37 : AC :=
 (.seq
  (.reg [] [⟨some 4, .move, [.k (.b false)], none⟩] [0, 1] [])
  (.seq
   (.reg [] [⟨some 5, .move, [.t 0], none⟩,
     ⟨some 6, .move, [.t 1], none⟩,
     ⟨some 7, .call [] false, [.f 51, .t 5, .t 6], none⟩,
     ⟨some 8, .bin .ge, [.t 7, .k (.i 0)], none⟩,
     ⟨some 4, .move, [.t 8], none⟩] [4] [])
   .ret))
def a37 : AF := ⟨c37, [.tmp 4]⟩
/-- impl.piShape$1 -/
def c58 : AC :=
 (.seq
  (.reg [] [⟨some 1, .box, [.t 0], none⟩,
    ⟨some 2, .move, [.k (.b false)], none⟩] [1] [1])
  (.seq
   (.reg [] [⟨some 3, .load (some 4) false, [.t 1], none⟩,
     ⟨some 4, .call [] false, [.f 44, .t 3], none⟩,
     ⟨some 5, .not, [.t 4], none⟩,
     ⟨some 2, .move, [.t 5], none⟩] [2] [])
   .ret))
def a58 : AF := ⟨c58, [.tmp 2]⟩
/-- impl.piShape -/
def c44 : AC :=
 (.seq
  (.reg [] [⟨some 1, .box, [.t 0], none⟩,
    ⟨some 2, .move, [.k (.b false)], none⟩] [1] [1])
  (.seq
   (.reg [] [⟨some 3, .move, [.k (.i 1)], none⟩] [1, 3] [1])
   (.seq
    (.seq
     (.reg [] [⟨some 4, .faddr 0, [.t 1], none⟩,
       ⟨some 5, .load none false, [.t 4], none⟩] [1, 3, 5] [1])
     (.block 0
      (.seq
       (.reg [] [⟨some 7, .bin .eq, [.t 5, .k (.i 0)], none⟩,
         ⟨some 6, .move, [.t 7], none⟩] [1, 3, 5, 6] [1])
       (.cond (.t 6)
        (.reg [] [⟨some 3, .move, [.k (.i 0)], none⟩] [1, 3] [1])
        (.seq
         (.seq
          (.reg [] [⟨some 9, .bin .eq, [.t 5, .k (.i 4)], none⟩,
            ⟨some 8, .move, [.t 9], none⟩] [1, 3, 5, 8] [1])
          (.cond (.t 8)
           .skip
           (.reg [] [⟨some 10, .bin .eq, [.t 5, .k (.i 5)], none⟩,
             ⟨some 8, .move, [.t 10], none⟩] [1, 3, 8] [1])))
         (.cond (.t 8)
          (.reg [] [⟨some 3, .move, [.k (.i 2)], none⟩] [1, 3] [1])
          .skip))))))
    (.seq
     (.seq
      (.reg [] [⟨some 11, .faddr 0, [.t 1], none⟩,
        ⟨some 12, .load none false, [.t 11], none⟩] [1, 3, 12] [1])
      (.block 1
       (.seq
        (.seq
         (.reg [] [⟨some 14, .bin .eq, [.t 12, .k (.i 0)], none⟩,
           ⟨some 13, .move, [.t 14], none⟩] [1, 3, 12, 13] [1])
         (.cond (.t 13)
          .skip
          (.seq
           (.reg [] [⟨some 15, .bin .eq, [.t 12, .k (.i 3)], none⟩,
             ⟨some 13, .move, [.t 15], none⟩] [1, 3, 12, 13] [1])
           (.cond (.t 13)
            .skip
            (.seq
             (.reg [] [⟨some 16, .bin .eq, [.t 12, .k (.i 4)], none⟩,
               ⟨some 13, .move, [.t 16], none⟩] [1, 3, 12, 13] [1])
             (.cond (.t 13)
              .skip
              (.reg [] [⟨some 17, .bin .eq, [.t 12, .k (.i 5)], none⟩,
                ⟨some 13, .move, [.t 17], none⟩] [1, 3, 12, 13] [1])))))))
        (.cond (.t 13)
         (.seq
          (.reg [] [⟨some 18, .faddr 1, [.t 1], none⟩,
            ⟨some 19, .load none false, [.t 18], none⟩,
            ⟨some 20, .bin .ne, [.t 19, .k (.i 0)], none⟩,
            ⟨some 21, .move, [.t 20], none⟩,
            ⟨some 22, .faddr 2, [.t 1], some (21, false)⟩,
            ⟨some 23, .load none false, [.t 22], some (21, false)⟩,
            ⟨some 24, .bin .ne, [.t 23, .k (.i 0)], some (21, false)⟩,
            ⟨some 25, .pick, [.t 21, .k (.b true), .t 24], none⟩] [1, 3, 25] [1])
          (.cond (.t 25)
           (.seq
            (.reg [] [⟨some 2, .move, [.k (.b false)], none⟩] [2] [])
            .ret)
           .skip))
         (.seq
          (.seq
           (.reg [] [⟨some 27, .bin .eq, [.t 12, .k (.i 1)], none⟩,
             ⟨some 26, .move, [.t 27], none⟩] [1, 3, 12, 26] [1])
           (.cond (.t 26)
            .skip
            (.seq
             (.reg [] [⟨some 28, .bin .eq, [.t 12, .k (.i 2)], none⟩,
               ⟨some 26, .move, [.t 28], none⟩] [1, 3, 12, 26] [1])
             (.cond (.t 26)
              .skip
              (.reg [] [⟨some 29, .bin .eq, [.t 12, .k (.i 7)], none⟩,
                ⟨some 26, .move, [.t 29], none⟩] [1, 3, 12, 26] [1])))))
          (.cond (.t 26)
           (.seq
            (.reg [] [⟨some 30, .faddr 1, [.t 1], none⟩,
              ⟨some 31, .load none false, [.t 30], none⟩,
              ⟨some 32, .call [] false, [.f 57, .t 31], none⟩,
              ⟨some 33, .not, [.t 32], none⟩,
              ⟨some 34, .move, [.t 33], none⟩,
              ⟨some 35, .faddr 2, [.t 1], some (34, false)⟩,
              ⟨some 36, .load none false, [.t 35], some (34, false)⟩,
              ⟨some 37, .call [] false, [.f 57, .t 36], some (34, false)⟩,
              ⟨some 38, .not, [.t 37], some (34, false)⟩,
              ⟨some 39, .pick, [.t 34, .k (.b true), .t 38], none⟩] [1, 3, 39] [1])
            (.cond (.t 39)
             (.seq
              (.reg [] [⟨some 2, .move, [.k (.b false)], none⟩] [2] [])
              .ret)
             .skip))
           (.seq
            (.reg [] [⟨some 41, .bin .eq, [.t 12, .k (.i 6)], none⟩,
              ⟨some 40, .move, [.t 41], none⟩] [1, 3, 40] [1])
            (.cond (.t 40)
             (.seq
              (.reg [] [⟨some 42, .faddr 1, [.t 1], none⟩,
                ⟨some 43, .load none false, [.t 42], none⟩,
                ⟨some 44, .call [] false, [.f 57, .t 43], none⟩,
                ⟨some 45, .not, [.t 44], none⟩,
                ⟨some 46, .move, [.t 45], none⟩,
                ⟨some 47, .faddr 2, [.t 1], some (46, false)⟩,
                ⟨some 48, .load none false, [.t 47], some (46, false)⟩,
                ⟨some 49, .bin .lt, [.t 48, .k (.i 0)], some (46, false)⟩,
                ⟨some 50, .pick, [.t 46, .k (.b true), .t 49], none⟩,
                ⟨some 51, .move, [.t 50], none⟩,
                ⟨some 52, .faddr 2, [.t 1], some (51, false)⟩,
                ⟨some 53, .load none false, [.t 52], some (51, false)⟩,
                ⟨some 54, .bin .ge, [.t 53, .k (.i 3)], some (51, false)⟩,
                ⟨some 55, .pick, [.t 51, .k (.b true), .t 54], none⟩] [1, 3, 55] [1])
              (.cond (.t 55)
               (.seq
                (.reg [] [⟨some 2, .move, [.k (.b false)], none⟩] [2] [])
                .ret)
               .skip))
             (.seq
              (.reg [] [⟨some 2, .move, [.k (.b false)], none⟩] [2] [])
              .ret)))))))))
     (.seq
      (.reg [] [⟨some 56, .faddr 3, [.t 1], none⟩,
        ⟨some 57, .load none false, [.t 56], none⟩,
        ⟨some 58, .len, [.t 57], none⟩,
        ⟨some 59, .move, [.t 3], none⟩,
        ⟨some 60, .bin .eq, [.t 58, .t 59], none⟩,
        ⟨some 61, .move, [.t 60], none⟩,
        ⟨some 62, .faddr 3, [.t 1], some (61, true)⟩,
        ⟨some 63, .load none false, [.t 62], some (61, true)⟩,
        ⟨some 64, .call [] false, [.f 37, .t 63, .f 58], some (61, true)⟩,
        ⟨some 65, .not, [.t 64], some (61, true)⟩,
        ⟨some 66, .pick, [.t 61, .t 65, .k (.b false)], none⟩,
        ⟨some 2, .move, [.t 66], none⟩] [2] [])
      .ret)))))
def a44 : AF := ⟨c44, [.tmp 2]⟩
/-- impl.PiOk -/
def c27 : AC :=
 (.seq
  (.reg [] [⟨some 1, .box, [.t 0], none⟩,
    ⟨some 2, .move, [.k (.b false)], none⟩] [1] [1])
  (.seq
   (.reg [] [⟨some 3, .load (some 4) false, [.t 1], none⟩,
     ⟨some 4, .call [] false, [.f 43, .t 3, .k (.i 14)], none⟩,
     ⟨some 5, .bin .le, [.t 4, .k (.i 14)], none⟩,
     ⟨some 6, .move, [.t 5], none⟩,
     ⟨some 7, .load (some 4) false, [.t 1], some (6, true)⟩,
     ⟨some 8, .call [] false, [.f 44, .t 7], some (6, true)⟩,
     ⟨some 9, .pick, [.t 6, .t 8, .k (.b false)], none⟩,
     ⟨some 2, .move, [.t 9], none⟩] [2] [])
   .ret))
def a27 : AF := ⟨c27, [.tmp 2]⟩
/-- impl.binds -/
def c55 : AC :=
 (.seq
  (.reg [] [⟨some 1, .box, [.t 0], none⟩,
    ⟨some 2, .move, [.k (.i 0)], none⟩] [1] [1])
  (.seq
   (.seq
    (.reg [] [⟨some 3, .faddr 0, [.t 1], none⟩,
      ⟨some 4, .load none false, [.t 3], none⟩] [1, 4] [1])
    (.block 0
     (.seq
      (.reg [] [⟨some 6, .bin .eq, [.t 4, .k (.i 2)], none⟩,
        ⟨some 5, .move, [.t 6], none⟩] [1, 4, 5] [1])
      (.cond (.t 5)
       (.seq
        (.reg [] [⟨some 7, .faddr 2, [.t 1], none⟩,
          ⟨some 8, .load none false, [.t 7], none⟩,
          ⟨some 2, .move, [.t 8], none⟩] [2] [])
        .ret)
       (.seq
        (.reg [] [⟨some 10, .bin .eq, [.t 4, .k (.i 6)], none⟩,
          ⟨some 9, .move, [.t 10], none⟩] [1, 9] [1])
        (.cond (.t 9)
         (.seq
          (.reg [] [⟨some 11, .faddr 1, [.t 1], none⟩,
            ⟨some 12, .load none false, [.t 11], none⟩,
            ⟨some 2, .move, [.t 12], none⟩] [2] [])
          .ret)
         .skip))))))
   (.seq
    (.reg [] [⟨some 2, .move, [.k (.i (-1))], none⟩] [2] [])
    .ret)))
def a55 : AF := ⟨c55, [.tmp 2]⟩
/-- impl.uses -/
def c56 : AC :=
 (.seq
  (.reg [] [⟨some 1, .box, [.t 0], none⟩,
    ⟨some 2, .move, [.k (.nils)], none⟩] [1] [1])
  (.seq
   (.seq
    (.reg [] [⟨some 3, .faddr 0, [.t 1], none⟩,
      ⟨some 4, .load none false, [.t 3], none⟩] [1, 4] [1])
    (.block 0
     (.seq
      (.seq
       (.reg [] [⟨some 6, .bin .eq, [.t 4, .k (.i 1)], none⟩,
         ⟨some 5, .move, [.t 6], none⟩] [1, 4, 5] [1])
       (.cond (.t 5)
        .skip
        (.reg [] [⟨some 7, .bin .eq, [.t 4, .k (.i 7)], none⟩,
          ⟨some 5, .move, [.t 7], none⟩] [1, 4, 5] [1])))
      (.cond (.t 5)
       (.seq
        (.reg [] [⟨some 8, .faddr 1, [.t 1], none⟩,
          ⟨some 9, .load none false, [.t 8], none⟩,
          ⟨some 10, .faddr 2, [.t 1], none⟩,
          ⟨some 11, .load none false, [.t 10], none⟩,
          ⟨some 12, .bslice 1 true, [.t 9, .t 11], none⟩,
          ⟨some 2, .move, [.t 12], none⟩] [2] [12, 17])
        .ret)
       (.seq
        (.reg [] [⟨some 14, .bin .eq, [.t 4, .k (.i 2)], none⟩,
          ⟨some 13, .move, [.t 14], none⟩] [1, 13] [1])
        (.cond (.t 13)
         (.seq
          (.reg [] [⟨some 15, .faddr 1, [.t 1], none⟩,
            ⟨some 16, .load none false, [.t 15], none⟩,
            ⟨some 17, .bslice 1 true, [.t 16], none⟩,
            ⟨some 2, .move, [.t 17], none⟩] [2] [12, 17])
          .ret)
         .skip))))))
   (.seq
    (.reg [] [⟨some 2, .move, [.k (.nils)], none⟩] [2] [12, 17])
    .ret)))
def a56 : AF := ⟨c56, [.tmp 2]⟩
def b42l0 : AC :=
 (.seq
  (.reg [] [⟨some 22, .bin .lt, [.t 21, .k (.i 30)], none⟩] [1, 2, 3, 13, 14, 15, 20, 21, 22] [1, 2, 3])
  (.seq
   (.cond (.t 22)
    .skip
    (.exit 2))
   (.seq
    (.block 3
     (.seq
      (.reg [] [⟨some 23, .move, [.t 21], none⟩,
        ⟨some 24, .idx none 1 30, [.t 20, .t 21], none⟩,
        ⟨some 6, .move, [.t 23], none⟩,
        ⟨some 7, .move, [.t 24], none⟩] [1, 2, 3, 6, 7, 13, 14, 15, 20, 21] [1, 2, 3])
      (.reg [] [⟨some 25, .move, [.t 6], none⟩,
        ⟨some 26, .move, [.t 6], none⟩,
        ⟨some 27, .iarr 1 30, [.t 3, .t 26], none⟩,
        ⟨some 28, .load none false, [.t 27], none⟩,
        ⟨some 29, .move, [.t 28], none⟩,
        ⟨some 30, .move, [.t 7], some (29, false)⟩,
        ⟨some 31, .pick, [.t 29, .k (.b true), .t 30], none⟩,
        ⟨some 32, .iarr 1 30, [.t 3, .t 25], none⟩,
        ⟨none, .store 1 true, [.t 32, .t 31], none⟩] [1, 2, 3, 13, 14, 15, 20, 21] [1, 2, 3])))
    (.reg [] [⟨some 33, .bin .add, [.t 21, .k (.i 1)], none⟩,
      ⟨some 21, .move, [.t 33], none⟩] [1, 2, 3, 13, 14, 15, 20, 21] [1, 2, 3]))))
def c42l0 : AC := b42l0
theorem r42l0 (call lp s) : run call lp c42l0 s = run call lp b42l0 s := rfl
def b42l1 : AC :=
 (.seq
  (.reg [] [⟨some 16, .bin .lt, [.t 15, .t 14], none⟩] [1, 2, 3, 13, 14, 15, 16] [1, 2, 3])
  (.seq
   (.cond (.t 16)
    .skip
    (.exit 0))
   (.seq
    (.block 1
     (.seq
      (.reg [] [⟨some 17, .iaddr 4, [.t 13, .t 15], none⟩,
        ⟨some 18, .load (some 4) false, [.t 17], none⟩,
        ⟨some 5, .alloc [.i 0, .i 0, .i 0, .nils], [], none⟩,
        ⟨none, .store 4 true, [.t 5, .t 18], none⟩] [1, 2, 3, 5, 13, 14, 15] [1, 2, 3, 5])
      (.seq
       (.reg [] [⟨some 19, .load (some 4) false, [.t 5], none⟩,
         ⟨some 20, .call [] false, [.f 42, .t 19], none⟩,
         ⟨some 21, .move, [.k (.i 0)], none⟩] [1, 2, 3, 13, 14, 15, 20, 21] [1, 2, 3])
       (.block 2
        (.loop [1, 2, 3, 13, 14, 15, 20, 21] [1, 2, 3] c42l0)))))
    (.reg [] [⟨some 34, .bin .add, [.t 15, .k (.i 1)], none⟩,
      ⟨some 15, .move, [.t 34], none⟩] [1, 2, 3, 13, 14, 15] [1, 2, 3]))))
def c42l1 : AC := b42l1
theorem r42l1 (call lp s) : run call lp c42l1 s = run call lp b42l1 s := rfl
def b42l2 : AC :=
 (.seq
  (.reg [] [⟨some 45, .bin .lt, [.t 44, .t 43], none⟩] [2, 3, 42, 43, 44, 45] [2, 3, 42])
  (.seq
   (.cond (.t 45)
    .skip
    (.exit 4))
   (.seq
    (.block 5
     (.seq
      (.reg [] [⟨some 46, .iaddr 1, [.t 42, .t 44], none⟩,
        ⟨some 47, .load none false, [.t 46], none⟩,
        ⟨some 10, .move, [.t 47], none⟩] [2, 3, 10, 42, 43, 44] [2, 3, 42])
      (.reg [] [⟨some 48, .move, [.t 10], none⟩,
        ⟨some 49, .iarr 1 30, [.t 3, .t 48], none⟩,
        ⟨none, .store 1 true, [.t 49, .k (.b true)], none⟩] [2, 3, 42, 43, 44] [2, 3, 42])))
    (.reg [] [⟨some 50, .bin .add, [.t 44, .k (.i 1)], none⟩,
      ⟨some 44, .move, [.t 50], none⟩] [2, 3, 42, 43, 44] [2, 3, 42]))))
def c42l2 : AC := b42l2
theorem r42l2 (call lp s) : run call lp c42l2 s = run call lp b42l2 s := rfl
/-- impl.free -/
def c42 : AC :=
 (.seq
  (.reg [] [⟨some 1, .box, [.t 0], none⟩,
    ⟨some 2, .alloc [.b false, .b false, .b false, .b false, .b false, .b false, .b false, .b false, .b false, .b false, .b false, .b false, .b false, .b false, .b false, .b false, .b false, .b false, .b false, .b false, .b false, .b false, .b false, .b false, .b false, .b false, .b false, .b false, .b false, .b false], [], none⟩] [1, 2] [1, 2])
  (.seq
   (.reg [] [⟨some 11, .build [.b false, .b false, .b false, .b false, .b false, .b false, .b false, .b false, .b false, .b false, .b false, .b false, .b false, .b false, .b false, .b false, .b false, .b false, .b false, .b false, .b false, .b false, .b false, .b false, .b false, .b false, .b false, .b false, .b false, .b false] [], [], none⟩,
     ⟨some 3, .alloc [.b false, .b false, .b false, .b false, .b false, .b false, .b false, .b false, .b false, .b false, .b false, .b false, .b false, .b false, .b false, .b false, .b false, .b false, .b false, .b false, .b false, .b false, .b false, .b false, .b false, .b false, .b false, .b false, .b false, .b false], [], none⟩,
     ⟨none, .store 30 true, [.t 3, .t 11], none⟩] [1, 2, 3] [1, 2, 3])
   (.seq
    (.seq
     (.reg [] [⟨some 12, .faddr 3, [.t 1], none⟩,
       ⟨some 13, .load none false, [.t 12], none⟩,
       ⟨some 14, .len, [.t 13], none⟩,
       ⟨some 15, .move, [.k (.i 0)], none⟩] [1, 2, 3, 13, 14, 15] [1, 2, 3])
     (.block 0
      (.loop [1, 2, 3, 13, 14, 15] [1, 2, 3] c42l1)))
    (.seq
     (.seq
      (.reg [] [⟨some 35, .load (some 4) false, [.t 1], none⟩,
        ⟨some 36, .call [] false, [.f 55, .t 35], none⟩,
        ⟨some 8, .move, [.t 36], none⟩] [1, 2, 3, 8] [1, 2, 3])
      (.seq
       (.reg [] [⟨some 37, .move, [.t 8], none⟩,
         ⟨some 38, .bin .ge, [.t 37, .k (.i 0)], none⟩] [1, 2, 3, 8, 38] [1, 2, 3])
       (.cond (.t 38)
        (.reg [] [⟨some 39, .move, [.t 8], none⟩,
          ⟨some 40, .iarr 1 30, [.t 3, .t 39], none⟩,
          ⟨none, .store 1 true, [.t 40, .k (.b false)], none⟩] [1, 2, 3] [1, 2, 3])
        .skip)))
     (.seq
      (.seq
       (.reg [] [⟨some 41, .load (some 4) false, [.t 1], none⟩,
         ⟨some 42, .call [] false, [.f 56, .t 41], none⟩,
         ⟨some 43, .len, [.t 42], none⟩,
         ⟨some 44, .move, [.k (.i 0)], none⟩] [2, 3, 42, 43, 44] [2, 3, 42])
       (.block 4
        (.loop [2, 3, 42, 43, 44] [2, 3, 42] c42l2)))
      (.seq
       (.reg [] [⟨some 51, .load (some 30) false, [.t 3], none⟩,
         ⟨none, .store 30 true, [.t 2, .t 51], none⟩] [2] [2])
       .ret))))))
def a42 : AF := ⟨c42, [.cell 2 (some 30)]⟩
def b26l0 : AC :=
 (.seq
  (.reg [] [⟨some 14, .bin .lt, [.t 13, .k (.i 30)], none⟩] [3, 12, 13, 14] [6, 21])
  (.seq
   (.cond (.t 14)
    .skip
    (.exit 0))
   (.seq
    (.block 1
     (.seq
      (.reg [] [⟨some 15, .move, [.t 13], none⟩,
        ⟨some 16, .idx none 1 30, [.t 12, .t 13], none⟩,
        ⟨some 4, .move, [.t 15], none⟩,
        ⟨some 5, .move, [.t 16], none⟩] [3, 4, 5, 12, 13] [6, 21])
      (.seq
       (.reg [] [⟨some 17, .move, [.t 5], none⟩] [3, 4, 12, 13, 17] [6, 21])
       (.cond (.t 17)
        (.reg [] [⟨some 18, .move, [.t 3], none⟩,
          ⟨some 19, .move, [.t 4], none⟩,
          ⟨some 20, .bslice 1 true, [.t 19], none⟩,
          ⟨some 21, .append 1 true, [.t 18, .t 20], none⟩,
          ⟨some 3, .move, [.t 21], none⟩] [3, 12, 13] [6, 21])
        .skip))))
    (.reg [] [⟨some 22, .bin .add, [.t 13, .k (.i 1)], none⟩,
      ⟨some 13, .move, [.t 22], none⟩] [3, 12, 13] [6, 21]))))
def c26l0 : AC := b26l0
theorem r26l0 (call lp s) : run call lp c26l0 s = run call lp b26l0 s := rfl
/-- impl.PiFree -/
def c26 : AC :=
 (.seq
  (.reg [] [⟨some 1, .box, [.t 0], none⟩,
    ⟨some 2, .move, [.k (.nils)], none⟩] [1] [1])
  (.seq
   (.reg [] [⟨some 6, .bslice 1 true, [], none⟩,
     ⟨some 3, .move, [.t 6], none⟩] [1, 3] [1, 6, 21])
   (.seq
    (.seq
     (.reg [] [⟨some 7, .load (some 4) false, [.t 1], none⟩,
       ⟨some 8, .call [] false, [.f 27, .t 7], none⟩,
       ⟨some 9, .not, [.t 8], none⟩] [1, 3, 9] [1, 6, 21])
     (.cond (.t 9)
      (.seq
       (.reg [] [⟨some 10, .move, [.t 3], none⟩,
         ⟨some 2, .move, [.t 10], none⟩] [2] [6, 21])
       .ret)
      .skip))
    (.seq
     (.seq
      (.reg [] [⟨some 11, .load (some 4) false, [.t 1], none⟩,
        ⟨some 12, .call [] false, [.f 42, .t 11], none⟩,
        ⟨some 13, .move, [.k (.i 0)], none⟩] [3, 12, 13] [6, 21])
      (.block 0
       (.loop [3, 12, 13] [6, 21] c26l0)))
     (.seq
      (.reg [] [⟨some 23, .move, [.t 3], none⟩,
        ⟨some 2, .move, [.t 23], none⟩] [2] [6, 21])
      .ret)))))
def a26 : AF := ⟨c26, [.tmp 2]⟩
def b59l0 : AC :=
 (.seq
  (.reg [] [⟨some 9, .bin .lt, [.t 8, .t 7], none⟩] [0, 1, 7, 8, 9] [])
  (.seq
   (.cond (.t 9)
    .skip
    (.exit 0))
   (.seq
    (.block 1
     (.seq
      (.reg [] [⟨some 10, .move, [.t 8], none⟩,
        ⟨some 5, .move, [.t 10], none⟩] [0, 1, 5, 7, 8] [])
      (.seq
       (.reg [] [⟨some 11, .move, [.t 1], none⟩,
         ⟨some 12, .move, [.t 0], none⟩,
         ⟨some 13, .move, [.t 5], none⟩,
         ⟨some 14, .iaddr 1, [.t 12, .t 13], none⟩,
         ⟨some 15, .load none false, [.t 14], none⟩,
         ⟨some 16, .call [] false, [.t 11, .t 15], none⟩] [0, 1, 5, 7, 8, 16] [])
       (.cond (.t 16)
        (.seq
         (.reg [] [⟨some 17, .move, [.t 5], none⟩,
           ⟨some 4, .move, [.t 17], none⟩] [4] [])
         .ret)
        .skip))))
    (.reg [] [⟨some 18, .bin .add, [.t 8, .k (.i 1)], none⟩,
      ⟨some 8, .move, [.t 18], none⟩] [0, 1, 7, 8] []))))
def c59l0 : AC := b59l0
theorem r59l0 (call lp s) : run call lp c59l0 s = run call lp b59l0 s := rfl
/-- slices.IndexFunc[[]int,int] -/
def c59 : AC :=
 (.seq
  (.reg [] [⟨some 4, .move, [.k (.i 0)], none⟩] [0, 1] [])
  (.seq
   (.seq
    (.reg [] [⟨some 6, .move, [.t 0], none⟩,
      ⟨some 7, .len, [.t 6], none⟩,
      ⟨some 8, .move, [.k (.i 0)], none⟩] [0, 1, 7, 8] [])
    (.block 0
     (.loop [0, 1, 7, 8] [] c59l0)))
   (.seq
    (.reg [] [⟨some 4, .move, [.k (.i (-1))], none⟩] [4] [])
    .ret)))
def a59 : AF := ⟨c59, [.tmp 4]⟩
/-- slices.ContainsFunc[[]int,int] -/
def c45 : AC :=
 (.seq
  (.reg [] [⟨some 4, .move, [.k (.b false)], none⟩] [0, 1] [])
  (.seq
   (.reg [] [⟨some 5, .move, [.t 0], none⟩,
     ⟨some 6, .move, [.t 1], none⟩,
     ⟨some 7, .call [] false, [.f 59, .t 5, .t 6], none⟩,
     ⟨some 8, .bin .ge, [.t 7, .k (.i 0)], none⟩,
     ⟨some 4, .move, [.t 8], none⟩] [4] [])
   .ret))
def a45 : AF := ⟨c45, [.tmp 4]⟩
/-- impl.sortNumbers$1 -/
def c46 : AC :=
 (.seq
  (.reg [] [⟨some 2, .move, [.k (.b false)], none⟩] [0] [])
  (.seq
   (.reg [] [⟨some 3, .move, [.t 0], none⟩,
     ⟨some 4, .bin .lt, [.t 3, .k (.i 0)], none⟩,
     ⟨some 5, .move, [.t 4], none⟩,
     ⟨some 6, .move, [.t 0], some (5, false)⟩,
     ⟨some 7, .bin .ge, [.t 6, .k (.i 3)], some (5, false)⟩,
     ⟨some 8, .pick, [.t 5, .k (.b true), .t 7], none⟩,
     ⟨some 2, .move, [.t 8], none⟩] [2] [])
   .ret))
def a46 : AF := ⟨c46, [.tmp 2]⟩
/-- impl.sortNumbers -/
def c28 : AC :=
 (.seq
  (.reg [] [⟨some 4, .move, [.k (.b false)], none⟩] [0, 1] [])
  (.seq
   (.reg [] [⟨some 5, .move, [.t 0], none⟩,
     ⟨some 6, .len, [.t 5], none⟩,
     ⟨some 7, .move, [.t 1], none⟩,
     ⟨some 8, .bin .eq, [.t 6, .t 7], none⟩,
     ⟨some 9, .move, [.t 8], none⟩,
     ⟨some 10, .move, [.t 0], some (9, true)⟩,
     ⟨some 11, .call [] false, [.f 45, .t 10, .f 46], some (9, true)⟩,
     ⟨some 12, .not, [.t 11], some (9, true)⟩,
     ⟨some 13, .pick, [.t 9, .t 12, .k (.b false)], none⟩,
     ⟨some 4, .move, [.t 13], none⟩] [4] [])
   .ret))
def a28 : AF := ⟨c28, [.tmp 4]⟩
/-- slices.Clone[[]int,int] -/
def c36 : AC :=
 (.seq
  (.reg [] [⟨some 2, .move, [.k (.nils)], none⟩] [0] [])
  (.seq
   (.seq
    (.reg [] [⟨some 3, .move, [.t 0], none⟩,
      ⟨some 4, .isnil, [.t 3, .k (.nils)], none⟩] [0, 4] [])
    (.cond (.t 4)
     (.seq
      (.reg [] [⟨some 2, .move, [.k (.nils)], none⟩] [2] [5, 7])
      .ret)
     .skip))
   (.seq
    (.reg [] [⟨some 5, .bslice 1 true, [], none⟩,
      ⟨some 6, .move, [.t 0], none⟩,
      ⟨some 7, .append 1 true, [.t 5, .t 6], none⟩,
      ⟨some 2, .move, [.t 7], none⟩] [2] [5, 7])
    .ret)))
def a36 : AF := ⟨c36, [.tmp 2]⟩
/-- impl.sortedIn$1 -/
def c47 : AC :=
 (.seq
  (.reg [] [⟨some 3, .box, [.t 0], none⟩,
    ⟨some 4, .move, [.k (.b false)], none⟩] [1, 2, 3] [3])
  (.seq
   (.reg [] [⟨some 5, .load (some 4) false, [.t 3], none⟩,
     ⟨some 6, .load none false, [.t 1], none⟩,
     ⟨some 7, .load none false, [.t 2], none⟩,
     ⟨some 8, .call [] false, [.f 29, .t 5, .t 6, .t 7], none⟩,
     ⟨some 9, .not, [.t 8], none⟩,
     ⟨some 4, .move, [.t 9], none⟩] [4] [])
   .ret))
def a47 : AF := ⟨c47, [.tmp 4]⟩
/-- impl.sortedIn -/
def c29 : AC :=
 (.seq
  (.reg [] [⟨some 3, .box, [.t 0], none⟩,
    ⟨some 4, .box, [.t 1], none⟩,
    ⟨some 5, .box, [.t 2], none⟩,
    ⟨some 6, .move, [.k (.b false)], none⟩] [3, 4, 5] [3, 4, 5, 50, 59])
  (.seq
   (.seq
    (.reg [] [⟨some 8, .faddr 0, [.t 3], none⟩,
      ⟨some 9, .load none false, [.t 8], none⟩] [3, 4, 5, 9] [3, 4, 5, 50, 59])
    (.block 0
     (.seq
      (.reg [] [⟨some 11, .bin .eq, [.t 9, .k (.i 1)], none⟩,
        ⟨some 10, .move, [.t 11], none⟩] [3, 4, 5, 9, 10] [3, 4, 5, 50, 59])
      (.cond (.t 10)
       (.seq
        (.reg [0, 1, 2, 3, 4, 5, 6, 7, 8, 9, 10, 11, 12, 13] [⟨some 12, .load none false, [.t 4], none⟩,
          ⟨some 13, .faddr 2, [.t 3], none⟩,
          ⟨some 14, .load none false, [.t 13], none⟩,
          ⟨some 15, .iaddr 1, [.t 12, .t 14], none⟩,
          ⟨some 16, .load none false, [.t 15], none⟩,
          ⟨some 17, .load none false, [.t 5], none⟩,
          ⟨some 18, .load none false, [.t 4], none⟩,
          ⟨some 19, .faddr 1, [.t 3], none⟩,
          ⟨some 20, .load none false, [.t 19], none⟩,
          ⟨some 21, .iaddr 1, [.t 18, .t 20], none⟩,
          ⟨some 22, .load none false, [.t 21], none⟩,
          ⟨some 23, .iaddr 1, [.t 17, .t 22], none⟩,
          ⟨some 24, .load none false, [.t 23], none⟩,
          ⟨some 25, .bin .ne, [.t 16, .t 24], none⟩] [3, 4, 5, 25] [3, 4, 5, 50, 59])
        (.cond (.t 25)
         (.seq
          (.reg [] [⟨some 6, .move, [.k (.b false)], none⟩] [6] [])
          .ret)
         .skip))
       (.seq
        (.reg [] [⟨some 27, .bin .eq, [.t 9, .k (.i 7)], none⟩,
          ⟨some 26, .move, [.t 27], none⟩] [3, 4, 5, 9, 26] [3, 4, 5, 50, 59])
        (.cond (.t 26)
         (.seq
          (.reg [0, 1, 2, 3, 4, 5, 6, 7, 8, 9, 10] [⟨some 28, .load none false, [.t 4], none⟩,
            ⟨some 29, .faddr 1, [.t 3], none⟩,
            ⟨some 30, .load none false, [.t 29], none⟩,
            ⟨some 31, .iaddr 1, [.t 28, .t 30], none⟩,
            ⟨some 32, .load none false, [.t 31], none⟩,
            ⟨some 33, .load none false, [.t 4], none⟩,
            ⟨some 34, .faddr 2, [.t 3], none⟩,
            ⟨some 35, .load none false, [.t 34], none⟩,
            ⟨some 36, .iaddr 1, [.t 33, .t 35], none⟩,
            ⟨some 37, .load none false, [.t 36], none⟩,
            ⟨some 38, .bin .ne, [.t 32, .t 37], none⟩] [3, 4, 5, 38] [3, 4, 5, 50, 59])
          (.cond (.t 38)
           (.seq
            (.reg [] [⟨some 6, .move, [.k (.b false)], none⟩] [6] [])
            .ret)
           .skip))
         (.seq
          (.reg [] [⟨some 40, .bin .eq, [.t 9, .k (.i 2)], none⟩,
            ⟨some 39, .move, [.t 40], none⟩] [3, 4, 5, 9, 39] [3, 4, 5, 50, 59])
          (.cond (.t 39)
           (.seq
            (.reg [0, 1, 2, 3, 4, 5, 6, 7, 8] [⟨some 41, .load none false, [.t 5], none⟩,
              ⟨some 42, .load none false, [.t 4], none⟩,
              ⟨some 43, .faddr 1, [.t 3], none⟩,
              ⟨some 44, .load none false, [.t 43], none⟩,
              ⟨some 45, .iaddr 1, [.t 42, .t 44], none⟩,
              ⟨some 46, .load none false, [.t 45], none⟩,
              ⟨some 47, .iaddr 1, [.t 41, .t 46], none⟩,
              ⟨some 48, .load none false, [.t 47], none⟩,
              ⟨some 7, .move, [.t 48], none⟩] [3, 4, 5, 7] [3, 4, 5, 50, 59])
            (.seq
             (.reg [] [⟨some 49, .load none false, [.t 4], none⟩,
               ⟨some 50, .call [] false, [.f 36, .t 49], none⟩,
               ⟨none, .store 1 true, [.t 4, .t 50], none⟩] [3, 4, 5, 7] [3, 4, 5, 50, 59])
             (.reg [] [⟨some 51, .load none false, [.t 4], none⟩,
               ⟨some 52, .faddr 2, [.t 3], none⟩,
               ⟨some 53, .load none false, [.t 52], none⟩,
               ⟨some 54, .move, [.t 7], none⟩,
               ⟨some 55, .iaddr 1, [.t 51, .t 53], none⟩,
               ⟨none, .store 1 true, [.t 55, .t 54], none⟩] [3, 4, 5] [3, 4, 5, 50, 59])))
           (.seq
            (.reg [] [⟨some 57, .bin .eq, [.t 9, .k (.i 6)], none⟩,
              ⟨some 56, .move, [.t 57], none⟩] [3, 4, 5, 56] [3, 4, 5, 50, 59])
            (.cond (.t 56)
             (.seq
              (.reg [] [⟨some 58, .load none false, [.t 4], none⟩,
                ⟨some 59, .call [] false, [.f 36, .t 58], none⟩,
                ⟨none, .store 1 true, [.t 4, .t 59], none⟩] [3, 4, 5] [3, 4, 5, 50, 59])
              (.reg [] [⟨some 60, .load none false, [.t 4], none⟩,
                ⟨some 61, .faddr 1, [.t 3], none⟩,
                ⟨some 62, .load none false, [.t 61], none⟩,
                ⟨some 63, .faddr 2, [.t 3], none⟩,
                ⟨some 64, .load none false, [.t 63], none⟩,
                ⟨some 65, .iaddr 1, [.t 60, .t 62], none⟩,
                ⟨none, .store 1 true, [.t 65, .t 64], none⟩] [3, 4, 5] [3, 4, 5, 50, 59]))
             .skip))))))))))
   (.seq
    (.reg [] [⟨some 66, .faddr 3, [.t 3], none⟩,
      ⟨some 67, .load none false, [.t 66], none⟩,
      ⟨some 68, .mkfunc 47, [.t 4, .t 5], none⟩,
      ⟨some 69, .call [] false, [.f 37, .t 67, .t 68], none⟩,
      ⟨some 70, .not, [.t 69], none⟩,
      ⟨some 6, .move, [.t 70], none⟩] [6] [])
    .ret)))
def a29 : AF := ⟨c29, [.tmp 6]⟩
def b9l0 : AC :=
 (.seq
  (.reg [] [⟨some 30, .bin .lt, [.t 29, .t 28], none⟩] [1, 2, 6, 7, 28, 29, 30] [2, 13])
  (.seq
   (.cond (.t 30)
    .skip
    (.exit 0))
   (.seq
    (.block 1
     (.reg [] [⟨some 31, .move, [.t 7], none⟩,
       ⟨some 32, .bin .mul, [.t 31, .k (.i 3)], none⟩,
       ⟨some 7, .move, [.t 32], none⟩] [1, 2, 6, 7, 28, 29] [2, 13]))
    (.reg [] [⟨some 33, .bin .add, [.t 29, .k (.i 1)], none⟩,
      ⟨some 29, .move, [.t 33], none⟩] [1, 2, 6, 7, 28, 29] [2, 13]))))
def c9l0 : AC := b9l0
theorem r9l0 (call lp s) : run call lp c9l0 s = run call lp b9l0 s := rfl
def b9l1 : AC :=
 (.seq
  (.seq
   (.reg [] [⟨some 44, .move, [.t 11], none⟩,
     ⟨some 45, .bin .ge, [.t 44, .k (.i 0)], none⟩] [1, 2, 6, 7, 8, 9, 10, 11, 45] [2, 13, 39])
   (.cond (.t 45)
    .skip
    (.exit 4)))
  (.seq
   (.block 5
    (.seq
     (.reg [] [⟨some 48, .move, [.t 9], none⟩,
       ⟨some 49, .move, [.t 6], none⟩,
       ⟨some 50, .move, [.t 11], none⟩,
       ⟨some 51, .iaddr 1, [.t 49, .t 50], none⟩,
       ⟨some 52, .load none false, [.t 51], none⟩,
       ⟨some 53, .move, [.t 10], none⟩,
       ⟨some 54, .bin .rem, [.t 53, .k (.i 3)], none⟩,
       ⟨some 55, .iaddr 1, [.t 48, .t 52], none⟩,
       ⟨none, .store 1 true, [.t 55, .t 54], none⟩] [1, 2, 6, 7, 8, 9, 10, 11] [2, 13, 39])
     (.reg [] [⟨some 56, .move, [.t 10], none⟩,
       ⟨some 57, .bin .quo, [.t 56, .k (.i 3)], none⟩,
       ⟨some 10, .move, [.t 57], none⟩] [1, 2, 6, 7, 8, 9, 10, 11] [2, 13, 39])))
   (.reg [] [⟨some 46, .move, [.t 11], none⟩,
     ⟨some 47, .bin .sub, [.t 46, .k (.i 1)], none⟩,
     ⟨some 11, .move, [.t 47], none⟩] [1, 2, 6, 7, 8, 9, 10, 11] [2, 13, 39])))
def c9l1 : AC := b9l1
theorem r9l1 (call lp s) : run call lp c9l1 s = run call lp b9l1 s := rfl
def b9l2 : AC :=
 (.seq
  (.seq
   (.reg [] [⟨some 34, .move, [.t 8], none⟩,
     ⟨some 35, .move, [.t 7], none⟩,
     ⟨some 36, .bin .lt, [.t 34, .t 35], none⟩] [1, 2, 6, 7, 8, 36] [2, 13])
   (.cond (.t 36)
    .skip
    (.exit 2)))
  (.seq
   (.block 3
    (.seq
     (.reg [] [⟨some 39, .mkslice 1 (.i 0), [.k (.i 30), .k (.i 30)], none⟩,
       ⟨some 40, .move, [.t 8], none⟩,
       ⟨some 9, .move, [.t 39], none⟩,
       ⟨some 10, .move, [.t 40], none⟩] [1, 2, 6, 7, 8, 9, 10] [2, 13, 39])
     (.seq
      (.seq
       (.reg [] [⟨some 41, .move, [.t 6], none⟩,
         ⟨some 42, .len, [.t 41], none⟩,
         ⟨some 43, .bin .sub, [.t 42, .k (.i 1)], none⟩,
         ⟨some 11, .move, [.t 43], none⟩] [1, 2, 6, 7, 8, 9, 10, 11] [2, 13, 39])
       (.block 4
        (.loop [1, 2, 6, 7, 8, 9, 10, 11] [2, 13, 39] c9l1)))
      (.seq
       (.reg [] [⟨some 58, .load (some 4) false, [.t 2], none⟩,
         ⟨some 59, .move, [.t 9], none⟩,
         ⟨some 60, .move, [.t 1], none⟩,
         ⟨some 61, .call [] false, [.f 29, .t 58, .t 59, .t 60], none⟩] [1, 2, 6, 7, 8, 9, 61] [2, 13, 39])
       (.cond (.t 61)
        (.seq
         (.reg [] [⟨some 62, .move, [.t 9], none⟩,
           ⟨some 4, .move, [.t 62], none⟩,
           ⟨some 5, .move, [.k (.b true)], none⟩] [4, 5] [39])
         .ret)
        .skip)))))
   (.reg [] [⟨some 37, .move, [.t 8], none⟩,
     ⟨some 38, .bin .add, [.t 37, .k (.i 1)], none⟩,
     ⟨some 8, .move, [.t 38], none⟩] [1, 2, 6, 7, 8] [2, 13])))
def c9l2 : AC := b9l2
theorem r9l2 (call lp s) : run call lp c9l2 s = run call lp b9l2 s := rfl
/-- impl.PiGuess -/
def c9 : AC :=
 (.seq
  (.reg [] [⟨some 2, .box, [.t 0], none⟩,
    ⟨some 4, .move, [.k (.nils)], none⟩,
    ⟨some 5, .move, [.k (.b false)], none⟩] [1, 2] [2])
  (.seq
   (.reg [] [⟨some 12, .load (some 4) false, [.t 2], none⟩,
     ⟨some 13, .call [] false, [.f 26, .t 12], none⟩,
     ⟨some 6, .move, [.t 13], none⟩] [1, 2, 6] [2, 13])
   (.seq
    (.seq
     (.reg [] [⟨some 14, .load (some 4) false, [.t 2], none⟩,
       ⟨some 15, .call [] false, [.f 27, .t 14], none⟩,
       ⟨some 16, .not, [.t 15], none⟩,
       ⟨some 17, .move, [.t 16], none⟩,
       ⟨some 18, .move, [.t 1], some (17, false)⟩,
       ⟨some 19, .call [] false, [.f 28, .t 18, .k (.i 3)], some (17, false)⟩,
       ⟨some 20, .not, [.t 19], some (17, false)⟩,
       ⟨some 21, .pick, [.t 17, .k (.b true), .t 20], none⟩,
       ⟨some 22, .move, [.t 21], none⟩,
       ⟨some 23, .move, [.t 6], some (22, false)⟩,
       ⟨some 24, .len, [.t 23], some (22, false)⟩,
       ⟨some 25, .bin .gt, [.t 24, .k (.i 6)], some (22, false)⟩,
       ⟨some 26, .pick, [.t 22, .k (.b true), .t 25], none⟩] [1, 2, 6, 26] [2, 13])
     (.cond (.t 26)
      (.seq
       (.reg [] [⟨some 4, .move, [.k (.nils)], none⟩,
         ⟨some 5, .move, [.k (.b false)], none⟩] [4, 5] [39])
       .ret)
      .skip))
    (.seq
     (.reg [] [⟨some 7, .move, [.k (.i 1)], none⟩] [1, 2, 6, 7] [2, 13])
     (.seq
      (.seq
       (.reg [] [⟨some 27, .move, [.t 6], none⟩,
         ⟨some 28, .len, [.t 27], none⟩,
         ⟨some 29, .move, [.k (.i 0)], none⟩] [1, 2, 6, 7, 28, 29] [2, 13])
       (.block 0
        (.loop [1, 2, 6, 7, 28, 29] [2, 13] c9l0)))
      (.seq
       (.seq
        (.reg [] [⟨some 8, .move, [.k (.i 0)], none⟩] [1, 2, 6, 7, 8] [2, 13])
        (.block 2
         (.loop [1, 2, 6, 7, 8] [2, 13] c9l2)))
       (.seq
        (.reg [] [⟨some 4, .move, [.k (.nils)], none⟩,
          ⟨some 5, .move, [.k (.b false)], none⟩] [4, 5] [39])
        .ret)))))))
def a9 : AF := ⟨c9, [.tmp 4, .tmp 5]⟩
def b10l0 : AC :=
 (.seq
  (.seq
   (.reg [] [⟨some 11, .move, [.t 5], none⟩,
     ⟨some 12, .move, [.t 0], none⟩,
     ⟨some 13, .len, [.t 12], none⟩,
     ⟨some 14, .bin .lt, [.t 11, .t 13], none⟩] [0, 1, 5, 14] [])
   (.cond (.t 14)
    .skip
    (.exit 0)))
  (.seq
   (.block 1
    (.seq
     (.reg [0, 1, 2, 3, 4, 5, 6, 7, 8] [⟨some 17, .move, [.t 0], none⟩,
       ⟨some 18, .move, [.t 5], none⟩,
       ⟨some 19, .iaddr 1, [.t 17, .t 18], none⟩,
       ⟨some 20, .load none false, [.t 19], none⟩,
       ⟨some 21, .move, [.t 1], none⟩,
       ⟨some 22, .move, [.t 5], none⟩,
       ⟨some 23, .iaddr 1, [.t 21, .t 22], none⟩,
       ⟨some 24, .load none false, [.t 23], none⟩,
       ⟨some 25, .bin .ne, [.t 20, .t 24], none⟩] [0, 1, 5, 25] [])
     (.cond (.t 25)
      (.seq
       (.reg [] [⟨some 4, .move, [.k (.b false)], none⟩] [4] [])
       .ret)
      .skip)))
   (.reg [] [⟨some 15, .move, [.t 5], none⟩,
     ⟨some 16, .bin .add, [.t 15, .k (.i 1)], none⟩,
     ⟨some 5, .move, [.t 16], none⟩] [0, 1, 5] [])))
def c10l0 : AC := b10l0
theorem r10l0 (call lp s) : run call lp c10l0 s = run call lp b10l0 s := rfl
/-- laws.eqIntS -/
def c10 : AC :=
 (.seq
  (.reg [] [⟨some 4, .move, [.k (.b false)], none⟩] [0, 1] [])
  (.seq
   (.seq
    (.reg [] [⟨some 6, .move, [.t 0], none⟩,
      ⟨some 7, .len, [.t 6], none⟩,
      ⟨some 8, .move, [.t 1], none⟩,
      ⟨some 9, .len, [.t 8], none⟩,
      ⟨some 10, .bin .ne, [.t 7, .t 9], none⟩] [0, 1, 10] [])
    (.cond (.t 10)
     (.seq
      (.reg [] [⟨some 4, .move, [.k (.b false)], none⟩] [4] [])
      .ret)
     .skip))
   (.seq
    (.seq
     (.reg [] [⟨some 5, .move, [.k (.i 0)], none⟩] [0, 1, 5] [])
     (.block 0
      (.loop [0, 1, 5] [] c10l0)))
    (.seq
     (.reg [] [⟨some 4, .move, [.k (.b true)], none⟩] [4] [])
     .ret))))
def a10 : AF := ⟨c10, [.tmp 4]⟩
def b30l0 : AC :=
 (.seq
  (.seq
   (.reg [] [⟨some 11, .move, [.t 5], none⟩,
     ⟨some 12, .move, [.t 0], none⟩,
     ⟨some 13, .len, [.t 12], none⟩,
     ⟨some 14, .bin .lt, [.t 11, .t 13], none⟩] [0, 1, 5, 14] [])
   (.cond (.t 14)
    .skip
    (.exit 0)))
  (.seq
   (.block 1
    (.seq
     (.reg [0, 1, 2, 3, 4, 5, 6, 7, 8, 9] [⟨some 17, .move, [.t 0], none⟩,
       ⟨some 18, .move, [.t 5], none⟩,
       ⟨some 19, .iaddr 4, [.t 17, .t 18], none⟩,
       ⟨some 20, .load (some 4) false, [.t 19], none⟩,
       ⟨some 21, .move, [.t 1], none⟩,
       ⟨some 22, .move, [.t 5], none⟩,
       ⟨some 23, .iaddr 4, [.t 21, .t 22], none⟩,
       ⟨some 24, .load (some 4) false, [.t 23], none⟩,
       ⟨some 25, .call [] false, [.f 11, .t 20, .t 24], none⟩,
       ⟨some 26, .not, [.t 25], none⟩] [0, 1, 5, 26] [])
     (.cond (.t 26)
      (.seq
       (.reg [] [⟨some 4, .move, [.k (.b false)], none⟩] [4] [])
       .ret)
      .skip)))
   (.reg [] [⟨some 15, .move, [.t 5], none⟩,
     ⟨some 16, .bin .add, [.t 15, .k (.i 1)], none⟩,
     ⟨some 5, .move, [.t 16], none⟩] [0, 1, 5] [])))
def c30l0 : AC := b30l0
theorem r30l0 (call lp s) : run call lp c30l0 s = run call lp b30l0 s := rfl
/-- laws.eqPiS -/
def c30 : AC :=
 (.seq
  (.reg [] [⟨some 4, .move, [.k (.b false)], none⟩] [0, 1] [])
  (.seq
   (.seq
    (.reg [] [⟨some 6, .move, [.t 0], none⟩,
      ⟨some 7, .len, [.t 6], none⟩,
      ⟨some 8, .move, [.t 1], none⟩,
      ⟨some 9, .len, [.t 8], none⟩,
      ⟨some 10, .bin .ne, [.t 7, .t 9], none⟩] [0, 1, 10] [])
    (.cond (.t 10)
     (.seq
      (.reg [] [⟨some 4, .move, [.k (.b false)], none⟩] [4] [])
      .ret)
     .skip))
   (.seq
    (.seq
     (.reg [] [⟨some 5, .move, [.k (.i 0)], none⟩] [0, 1, 5] [])
     (.block 0
      (.loop [0, 1, 5] [] c30l0)))
    (.seq
     (.reg [] [⟨some 4, .move, [.k (.b true)], none⟩] [4] [])
     .ret))))
def a30 : AF := ⟨c30, [.tmp 4]⟩
/-- laws.eqPi -/
def c11 : AC :=
 (.seq
  (.reg [] [⟨some 2, .box, [.t 0], none⟩,
    ⟨some 3, .box, [.t 1], none⟩,
    ⟨some 4, .move, [.k (.b false)], none⟩] [2, 3] [2, 3])
  (.seq
   (.seq
    (.reg [] [⟨some 5, .faddr 0, [.t 2], none⟩,
      ⟨some 6, .load none false, [.t 5], none⟩,
      ⟨some 7, .faddr 0, [.t 3], none⟩,
      ⟨some 8, .load none false, [.t 7], none⟩,
      ⟨some 9, .bin .ne, [.t 6, .t 8], none⟩] [2, 3, 9] [2, 3])
    (.cond (.t 9)
     (.seq
      (.reg [] [⟨some 4, .move, [.k (.b false)], none⟩] [4] [])
      .ret)
     .skip))
   (.seq
    (.seq
     (.reg [] [⟨some 10, .faddr 1, [.t 2], none⟩,
       ⟨some 11, .load none false, [.t 10], none⟩,
       ⟨some 12, .faddr 1, [.t 3], none⟩,
       ⟨some 13, .load none false, [.t 12], none⟩,
       ⟨some 14, .bin .ne, [.t 11, .t 13], none⟩] [2, 3, 14] [2, 3])
     (.cond (.t 14)
      (.seq
       (.reg [] [⟨some 4, .move, [.k (.b false)], none⟩] [4] [])
       .ret)
      .skip))
    (.seq
     (.seq
      (.reg [] [⟨some 15, .faddr 2, [.t 2], none⟩,
        ⟨some 16, .load none false, [.t 15], none⟩,
        ⟨some 17, .faddr 2, [.t 3], none⟩,
        ⟨some 18, .load none false, [.t 17], none⟩,
        ⟨some 19, .bin .ne, [.t 16, .t 18], none⟩] [2, 3, 19] [2, 3])
      (.cond (.t 19)
       (.seq
        (.reg [] [⟨some 4, .move, [.k (.b false)], none⟩] [4] [])
        .ret)
       .skip))
     (.seq
      (.seq
       (.reg [] [⟨some 20, .faddr 3, [.t 2], none⟩,
         ⟨some 21, .load none false, [.t 20], none⟩,
         ⟨some 22, .faddr 3, [.t 3], none⟩,
         ⟨some 23, .load none false, [.t 22], none⟩,
         ⟨some 24, .call [] false, [.f 30, .t 21, .t 23], none⟩,
         ⟨some 25, .not, [.t 24], none⟩] [25] [])
       (.cond (.t 25)
        (.seq
         (.reg [] [⟨some 4, .move, [.k (.b false)], none⟩] [4] [])
         .ret)
        .skip))
      (.seq
       (.reg [] [⟨some 4, .move, [.k (.b true)], none⟩] [4] [])
       .ret))))))
def a11 : AF := ⟨c11, [.tmp 4]⟩
def b31l0 : AC :=
 (.seq
  (.seq
   (.reg [] [⟨some 6, .move, [.t 5], none⟩,
     ⟨some 7, .move, [.t 0], none⟩,
     ⟨some 8, .len, [.t 7], none⟩,
     ⟨some 9, .bin .lt, [.t 6, .t 8], none⟩] [0, 1, 5, 9] [])
   (.cond (.t 9)
    .skip
    (.exit 0)))
  (.seq
   (.block 1
    (.seq
     (.reg [] [⟨some 12, .move, [.t 0], none⟩,
       ⟨some 13, .move, [.t 5], none⟩,
       ⟨some 14, .move, [.t 1], none⟩,
       ⟨some 15, .iaddr 4, [.t 12, .t 13], none⟩,
       ⟨some 16, .faddr 0, [.t 15], none⟩,
       ⟨none, .store 1 true, [.t 16, .t 14], none⟩] [0, 1, 5] [])
     (.seq
      (.reg [] [⟨some 17, .move, [.t 1], none⟩,
        ⟨some 18, .bin .add, [.t 17, .k (.i 1)], none⟩,
        ⟨some 1, .move, [.t 18], none⟩] [0, 1, 5] [])
      (.seq
       (.reg [] [⟨some 19, .move, [.t 0], none⟩,
         ⟨some 20, .move, [.t 5], none⟩,
         ⟨some 21, .move, [.t 1], none⟩,
         ⟨some 22, .iaddr 4, [.t 19, .t 20], none⟩,
         ⟨some 23, .faddr 1, [.t 22], none⟩,
         ⟨none, .store 1 true, [.t 23, .t 21], none⟩] [0, 1, 5] [])
       (.seq
        (.reg [] [⟨some 24, .move, [.t 1], none⟩,
          ⟨some 25, .bin .add, [.t 24, .k (.i 1)], none⟩,
          ⟨some 1, .move, [.t 25], none⟩] [0, 1, 5] [])
        (.seq
         (.reg [] [⟨some 26, .move, [.t 0], none⟩,
           ⟨some 27, .move, [.t 5], none⟩,
           ⟨some 28, .move, [.t 1], none⟩,
           ⟨some 29, .iaddr 4, [.t 26, .t 27], none⟩,
           ⟨some 30, .faddr 2, [.t 29], none⟩,
           ⟨none, .store 1 true, [.t 30, .t 28], none⟩] [0, 1, 5] [])
         (.seq
          (.reg [] [⟨some 31, .move, [.t 1], none⟩,
            ⟨some 32, .bin .add, [.t 31, .k (.i 1)], none⟩,
            ⟨some 1, .move, [.t 32], none⟩] [0, 1, 5] [])
          (.reg [] [⟨some 33, .move, [.t 0], none⟩,
            ⟨some 34, .move, [.t 5], none⟩,
            ⟨some 35, .iaddr 4, [.t 33, .t 34], none⟩,
            ⟨some 36, .faddr 3, [.t 35], none⟩,
            ⟨some 37, .take, [.t 36], none⟩,
            ⟨some 38, .move, [.t 1], none⟩,
            ⟨some 39, .call [0] false, [.f 31, .t 37, .t 38], none⟩,
            ⟨some 1, .move, [.t 39], none⟩] [0, 1, 5] []))))))))
   (.reg [] [⟨some 10, .move, [.t 5], none⟩,
     ⟨some 11, .bin .add, [.t 10, .k (.i 1)], none⟩,
     ⟨some 5, .move, [.t 11], none⟩] [0, 1, 5] [])))
def c31l0 : AC := b31l0
theorem r31l0 (call lp s) : run call lp c31l0 s = run call lp b31l0 s := rfl
/-- laws.markPiS -/
def c31 : AC :=
 (.seq
  (.reg [] [⟨some 4, .move, [.k (.i 0)], none⟩] [0, 1] [])
  (.seq
   (.seq
    (.reg [] [⟨some 5, .move, [.k (.i 0)], none⟩] [0, 1, 5] [])
    (.block 0
     (.loop [0, 1, 5] [] c31l0)))
   (.seq
    (.reg [] [⟨some 40, .move, [.t 1], none⟩,
      ⟨some 4, .move, [.t 40], none⟩] [4] [])
    .ret)))
def a31 : AF := ⟨c31, [.tmp 4]⟩
/-- laws.markPi -/
def c12 : AC :=
 (.seq
  (.reg [] [⟨some 2, .box, [.t 0], none⟩,
    ⟨some 4, .move, [.k (.i 0)], none⟩] [1, 2] [2])
  (.seq
   (.reg [] [⟨some 5, .faddr 3, [.t 2], none⟩,
     ⟨some 6, .load none false, [.t 5], none⟩,
     ⟨some 7, .move, [.t 1], none⟩,
     ⟨some 8, .call [0] false, [.f 31, .t 6, .t 7], none⟩,
     ⟨some 1, .move, [.t 8], none⟩] [1] [])
   (.seq
    (.reg [] [⟨some 9, .move, [.t 1], none⟩,
      ⟨some 4, .move, [.t 9], none⟩] [4] [])
    .ret)))
def a12 : AF := ⟨c12, [.tmp 4]⟩
def b13l0 : AC :=
 (.seq
  (.seq
   (.reg [] [⟨some 6, .move, [.t 5], none⟩,
     ⟨some 7, .move, [.t 0], none⟩,
     ⟨some 8, .len, [.t 7], none⟩,
     ⟨some 9, .bin .lt, [.t 6, .t 8], none⟩] [0, 1, 5, 9] [])
   (.cond (.t 9)
    .skip
    (.exit 0)))
  (.seq
   (.block 1
    (.seq
     (.reg [] [⟨some 12, .move, [.t 0], none⟩,
       ⟨some 13, .move, [.t 5], none⟩,
       ⟨some 14, .move, [.t 1], none⟩,
       ⟨some 15, .iaddr 1, [.t 12, .t 13], none⟩,
       ⟨none, .store 1 true, [.t 15, .t 14], none⟩] [0, 1, 5] [])
     (.reg [] [⟨some 16, .move, [.t 1], none⟩,
       ⟨some 17, .bin .add, [.t 16, .k (.i 1)], none⟩,
       ⟨some 1, .move, [.t 17], none⟩] [0, 1, 5] [])))
   (.reg [] [⟨some 10, .move, [.t 5], none⟩,
     ⟨some 11, .bin .add, [.t 10, .k (.i 1)], none⟩,
     ⟨some 5, .move, [.t 11], none⟩] [0, 1, 5] [])))
def c13l0 : AC := b13l0
theorem r13l0 (call lp s) : run call lp c13l0 s = run call lp b13l0 s := rfl
/-- laws.markIntS -/
def c13 : AC :=
 (.seq
  (.reg [] [⟨some 4, .move, [.k (.i 0)], none⟩] [0, 1] [])
  (.seq
   (.seq
    (.reg [] [⟨some 5, .move, [.k (.i 0)], none⟩] [0, 1, 5] [])
    (.block 0
     (.loop [0, 1, 5] [] c13l0)))
   (.seq
    (.reg [] [⟨some 18, .move, [.t 1], none⟩,
      ⟨some 4, .move, [.t 18], none⟩] [4] [])
    .ret)))
def a13 : AF := ⟨c13, [.tmp 4]⟩
def b14l0 : AC :=
 (.seq
  (.seq
   (.reg [] [⟨some 6, .move, [.t 5], none⟩,
     ⟨some 7, .move, [.t 0], none⟩,
     ⟨some 8, .len, [.t 7], none⟩,
     ⟨some 9, .bin .lt, [.t 6, .t 8], none⟩] [0, 1, 5, 9] [])
   (.cond (.t 9)
    .skip
    (.exit 0)))
  (.seq
   (.block 1
    (.seq
     (.seq
      (.reg [] [⟨some 12, .move, [.t 0], none⟩,
        ⟨some 13, .move, [.t 5], none⟩,
        ⟨some 14, .iaddr 1, [.t 12, .t 13], none⟩,
        ⟨some 15, .load none false, [.t 14], none⟩,
        ⟨some 16, .move, [.t 1], none⟩,
        ⟨some 17, .bin .ne, [.t 15, .t 16], none⟩] [0, 1, 5, 17] [])
      (.cond (.t 17)
       (.seq
        (.reg [] [⟨some 4, .move, [.k (.i (-1))], none⟩] [4] [])
        .ret)
       .skip))
     (.reg [] [⟨some 18, .move, [.t 1], none⟩,
       ⟨some 19, .bin .add, [.t 18, .k (.i 1)], none⟩,
       ⟨some 1, .move, [.t 19], none⟩] [0, 1, 5] [])))
   (.reg [] [⟨some 10, .move, [.t 5], none⟩,
     ⟨some 11, .bin .add, [.t 10, .k (.i 1)], none⟩,
     ⟨some 5, .move, [.t 11], none⟩] [0, 1, 5] [])))
def c14l0 : AC := b14l0
theorem r14l0 (call lp s) : run call lp c14l0 s = run call lp b14l0 s := rfl
/-- laws.heldIntS -/
def c14 : AC :=
 (.seq
  (.reg [] [⟨some 4, .move, [.k (.i 0)], none⟩] [0, 1] [])
  (.seq
   (.seq
    (.reg [] [⟨some 5, .move, [.k (.i 0)], none⟩] [0, 1, 5] [])
    (.block 0
     (.loop [0, 1, 5] [] c14l0)))
   (.seq
    (.reg [] [⟨some 20, .move, [.t 1], none⟩,
      ⟨some 4, .move, [.t 20], none⟩] [4] [])
    .ret)))
def a14 : AF := ⟨c14, [.tmp 4]⟩
/-- laws.FnExactPiGuess -/
def c3 : AC :=
 (.seq
  (.reg [] [⟨some 2, .box, [.t 0], none⟩,
    ⟨some 4, .move, [.k (.b false)], none⟩] [1, 2] [2])
  (.seq
   (.seq
    (.reg [] [⟨some 17, .move, [.t 1], none⟩,
      ⟨some 18, .len, [.t 17], none⟩,
      ⟨some 19, .bin .gt, [.t 18, .k (.i 1048576)], none⟩] [1, 2, 19] [2])
    (.cond (.t 19)
     (.seq
      (.reg [] [⟨some 4, .move, [.k (.b true)], none⟩] [4] [])
      .ret)
     .skip))
   (.seq
    (.reg [] [⟨some 5, .move, [.k (.i 1048576)], none⟩] [1, 2, 5] [2])
    (.seq
     (.reg [] [⟨some 20, .load (some 4) false, [.t 2], none⟩,
       ⟨some 21, .move, [.t 5], none⟩,
       ⟨some 22, .call [] false, [.f 5, .t 20, .t 21], none⟩,
       ⟨some 5, .move, [.t 22], none⟩] [1, 2, 5] [2])
     (.seq
      (.seq
       (.reg [] [⟨some 23, .move, [.t 5], none⟩,
         ⟨some 24, .bin .lt, [.t 23, .k (.i 0)], none⟩] [1, 2, 24] [2])
       (.cond (.t 24)
        (.seq
         (.reg [] [⟨some 4, .move, [.k (.b true)], none⟩] [4] [])
         .ret)
        .skip))
      (.seq
       (.reg [] [⟨some 26, .load (some 4) false, [.t 2], none⟩,
         ⟨some 27, .call [] false, [.f 7, .t 26], none⟩,
         ⟨some 28, .move, [.t 1], none⟩,
         ⟨some 29, .call [] false, [.f 8, .t 28], none⟩,
         ⟨some 30, .call [] false, [.f 6, .t 27, .t 29], none⟩,
         ⟨some 25, .move, [.t 30], none⟩,
         ⟨some 31, .ext 0, [.t 25], none⟩,
         ⟨some 32, .ext 1, [.t 25], none⟩,
         ⟨some 6, .move, [.t 31], none⟩,
         ⟨some 7, .move, [.t 32], none⟩] [1, 2, 6, 7] [2, 27, 29, 30])
       (.seq
        (.reg [] [⟨some 33, .load (some 4) false, [.t 2], none⟩,
          ⟨some 34, .call [] false, [.f 7, .t 33], none⟩,
          ⟨some 8, .alloc [.i 0, .i 0, .i 0, .nils], [], none⟩,
          ⟨none, .store 4 true, [.t 8, .t 34], none⟩] [1, 2, 6, 7, 8] [2, 8, 27, 29, 30, 34])
        (.seq
         (.reg [] [⟨some 35, .move, [.t 1], none⟩,
           ⟨some 36, .call [] false, [.f 8, .t 35], none⟩,
           ⟨some 9, .move, [.t 36], none⟩] [1, 2, 6, 7, 8, 9] [2, 8, 27, 29, 30, 34, 36])
         (.seq
          (.reg [] [⟨some 38, .load (some 4) false, [.t 8], none⟩,
            ⟨some 39, .move, [.t 9], none⟩,
            ⟨some 40, .call [] false, [.f 9, .t 38, .t 39], none⟩,
            ⟨some 37, .move, [.t 40], none⟩,
            ⟨some 41, .ext 0, [.t 37], none⟩,
            ⟨some 42, .ext 1, [.t 37], none⟩,
            ⟨some 10, .move, [.t 41], none⟩,
            ⟨some 11, .move, [.t 42], none⟩] [1, 2, 6, 7, 8, 9, 10, 11] [2, 8, 27, 29, 30, 34, 36, 40])
          (.seq
           (.seq
            (.reg [] [⟨some 43, .move, [.t 10], none⟩,
              ⟨some 44, .move, [.t 6], none⟩,
              ⟨some 45, .call [] false, [.f 10, .t 43, .t 44], none⟩,
              ⟨some 46, .not, [.t 45], none⟩,
              ⟨some 47, .move, [.t 46], none⟩,
              ⟨some 48, .move, [.t 11], some (47, false)⟩,
              ⟨some 49, .move, [.t 7], some (47, false)⟩,
              ⟨some 50, .bne, [.t 48, .t 49], some (47, false)⟩,
              ⟨some 51, .pick, [.t 47, .k (.b true), .t 50], none⟩] [1, 2, 6, 7, 8, 9, 10, 11, 51] [2, 8, 27, 29, 30, 34, 36, 40])
            (.cond (.t 51)
             (.seq
              (.reg [] [⟨some 4, .move, [.k (.b false)], none⟩] [4] [])
              .ret)
             .skip))
           (.seq
            (.seq
             (.reg [0, 1, 2, 4, 5] [⟨some 52, .load (some 4) false, [.t 8], none⟩,
               ⟨some 53, .load (some 4) false, [.t 2], none⟩,
               ⟨some 54, .call [] false, [.f 7, .t 53], none⟩,
               ⟨none, .chk (.load (some 4) false), [.t 52, .t 8], none⟩,
               ⟨some 55, .call [] false, [.f 11, .t 52, .t 54], none⟩,
               ⟨some 56, .not, [.t 55], none⟩] [1, 2, 6, 7, 8, 9, 10, 11, 56] [2, 8, 27, 29, 30, 34, 36, 40])
             (.cond (.t 56)
              (.seq
               (.reg [] [⟨some 4, .move, [.k (.b false)], none⟩] [4] [])
               .ret)
              .skip))
            (.seq
             (.seq
              (.reg [] [⟨some 57, .move, [.t 9], none⟩,
                ⟨some 58, .move, [.t 1], none⟩,
                ⟨some 59, .call [] false, [.f 8, .t 58], none⟩,
                ⟨some 60, .call [] false, [.f 10, .t 57, .t 59], none⟩,
                ⟨some 61, .not, [.t 60], none⟩] [1, 2, 6, 7, 8, 9, 10, 11, 61] [2, 8, 27, 29, 30, 34, 36, 40])
              (.cond (.t 61)
               (.seq
                (.reg [] [⟨some 4, .move, [.k (.b false)], none⟩] [4] [])
                .ret)
               .skip))
             (.seq
              (.reg [] [⟨some 12, .move, [.k (.i 1)], none⟩] [1, 2, 6, 7, 8, 9, 10, 11, 12] [2, 8, 27, 29, 30, 34, 36, 40])
              (.seq
               (.reg [] [⟨some 62, .load (some 4) false, [.t 8], none⟩,
                 ⟨some 63, .move, [.t 12], none⟩,
                 ⟨some 64, .call [0] false, [.f 12, .t 62, .t 63], none⟩,
                 ⟨some 12, .move, [.t 64], none⟩] [1, 2, 6, 7, 9, 10, 11, 12] [2, 27, 29, 30, 34, 36, 40])
               (.seq
                (.reg [] [⟨some 65, .move, [.t 9], none⟩,
                  ⟨some 66, .move, [.t 12], none⟩,
                  ⟨some 67, .call [0] false, [.f 13, .t 65, .t 66], none⟩,
                  ⟨some 12, .move, [.t 67], none⟩] [1, 2, 6, 7, 10, 11, 12] [2, 27, 29, 30, 34, 36, 40])
                (.seq
                 (.seq
                  (.reg [] [⟨some 68, .move, [.t 12], none⟩,
                    ⟨some 69, .bin .lt, [.t 68, .k (.i 0)], none⟩,
                    ⟨some 70, .move, [.t 69], none⟩,
                    ⟨some 71, .move, [.t 10], some (70, false)⟩,
                    ⟨some 72, .move, [.t 6], some (70, false)⟩,
                    ⟨some 73, .call [] false, [.f 10, .t 71, .t 72], some (70, false)⟩,
                    ⟨some 74, .not, [.t 73], some (70, false)⟩,
                    ⟨some 75, .pick, [.t 70, .k (.b true), .t 74], none⟩,
                    ⟨some 76, .move, [.t 75], none⟩,
                    ⟨some 77, .move, [.t 11], some (76, false)⟩,
                    ⟨some 78, .move, [.t 7], some (76, false)⟩,
                    ⟨some 79, .bne, [.t 77, .t 78], some (76, false)⟩,
                    ⟨some 80, .pick, [.t 76, .k (.b true), .t 79], none⟩] [1, 2, 6, 7, 10, 80] [2, 27, 29, 30, 34, 36, 40])
                  (.cond (.t 80)
                   (.seq
                    (.reg [] [⟨some 4, .move, [.k (.b false)], none⟩] [4] [])
                    .ret)
                   .skip))
                 (.seq
                  (.reg [] [⟨some 13, .move, [.k (.i 1)], none⟩] [1, 2, 6, 7, 10, 13] [2, 27, 29, 30, 34, 36, 40])
                  (.seq
                   (.reg [] [⟨some 81, .move, [.t 10], none⟩,
                     ⟨some 82, .move, [.t 13], none⟩,
                     ⟨some 83, .call [0] false, [.f 13, .t 81, .t 82], none⟩,
                     ⟨some 13, .move, [.t 83], none⟩] [1, 2, 6, 7, 10, 13] [2, 27, 29, 30, 34, 36, 40])
                   (.seq
                    (.reg [] [⟨some 14, .move, [.k (.i 1)], none⟩] [1, 2, 6, 7, 10, 13, 14] [2, 27, 29, 30, 34, 36, 40])
                    (.seq
                     (.reg [] [⟨some 84, .move, [.t 10], none⟩,
                       ⟨some 85, .move, [.t 14], none⟩,
                       ⟨some 86, .call [] false, [.f 14, .t 84, .t 85], none⟩,
                       ⟨some 14, .move, [.t 86], none⟩] [1, 2, 6, 7, 10, 13, 14] [2, 27, 29, 30, 34, 36, 40])
                     (.seq
                      (.seq
                       (.reg [] [⟨some 87, .move, [.t 14], none⟩,
                         ⟨some 88, .bin .lt, [.t 87, .k (.i 0)], none⟩] [1, 2, 6, 7, 10, 13, 14, 88] [2, 27, 29, 30, 34, 36, 40])
                       (.cond (.t 88)
                        (.seq
                         (.reg [] [⟨some 4, .move, [.k (.b false)], none⟩] [4] [])
                         .ret)
                        .skip))
                      (.seq
                       (.seq
                        (.reg [] [⟨some 89, .move, [.t 14], none⟩,
                          ⟨some 90, .move, [.t 13], none⟩,
                          ⟨some 91, .bin .ne, [.t 89, .t 90], none⟩] [1, 2, 6, 7, 10, 13, 91] [2, 27, 29, 30, 34, 36, 40])
                        (.cond (.t 91)
                         (.seq
                          (.reg [] [⟨some 4, .move, [.k (.b false)], none⟩] [4] [])
                          .ret)
                         .skip))
                       (.seq
                        (.reg [] [⟨some 93, .load (some 4) false, [.t 2], none⟩,
                          ⟨some 94, .call [] false, [.f 7, .t 93], none⟩,
                          ⟨some 95, .move, [.t 1], none⟩,
                          ⟨some 96, .call [] false, [.f 8, .t 95], none⟩,
                          ⟨some 97, .call [] false, [.f 9, .t 94, .t 96], none⟩,
                          ⟨some 92, .move, [.t 97], none⟩,
                          ⟨some 98, .ext 0, [.t 92], none⟩,
                          ⟨some 99, .ext 1, [.t 92], none⟩,
                          ⟨some 15, .move, [.t 98], none⟩,
                          ⟨some 16, .move, [.t 99], none⟩] [6, 7, 10, 13, 15, 16] [27, 29, 30, 34, 36, 40, 94, 96, 97])
                        (.seq
                         (.seq
                          (.reg [] [⟨some 100, .move, [.t 15], none⟩,
                            ⟨some 101, .move, [.t 6], none⟩,
                            ⟨some 102, .call [] false, [.f 10, .t 100, .t 101], none⟩,
                            ⟨some 103, .not, [.t 102], none⟩,
                            ⟨some 104, .move, [.t 103], none⟩,
                            ⟨some 105, .move, [.t 16], some (104, false)⟩,
                            ⟨some 106, .move, [.t 7], some (104, false)⟩,
                            ⟨some 107, .bne, [.t 105, .t 106], some (104, false)⟩,
                            ⟨some 108, .pick, [.t 104, .k (.b true), .t 107], none⟩] [10, 13, 108] [34, 36, 40])
                          (.cond (.t 108)
                           (.seq
                            (.reg [] [⟨some 4, .move, [.k (.b false)], none⟩] [4] [])
                            .ret)
                           .skip))
                         (.seq
                          (.reg [] [⟨some 14, .move, [.k (.i 1)], none⟩] [10, 13, 14] [34, 36, 40])
                          (.seq
                           (.reg [] [⟨some 109, .move, [.t 10], none⟩,
                             ⟨some 110, .move, [.t 14], none⟩,
                             ⟨some 111, .call [] false, [.f 14, .t 109, .t 110], none⟩,
                             ⟨some 14, .move, [.t 111], none⟩] [13, 14] [])
                           (.seq
                            (.seq
                             (.reg [] [⟨some 112, .move, [.t 14], none⟩,
                               ⟨some 113, .bin .lt, [.t 112, .k (.i 0)], none⟩] [13, 14, 113] [])
                             (.cond (.t 113)
                              (.seq
                               (.reg [] [⟨some 4, .move, [.k (.b false)], none⟩] [4] [])
                               .ret)
                              .skip))
                            (.seq
                             (.seq
                              (.reg [] [⟨some 114, .move, [.t 14], none⟩,
                                ⟨some 115, .move, [.t 13], none⟩,
                                ⟨some 116, .bin .ne, [.t 114, .t 115], none⟩] [116] [])
                              (.cond (.t 116)
                               (.seq
                                (.reg [] [⟨some 4, .move, [.k (.b false)], none⟩] [4] [])
                                .ret)
                               .skip))
                             (.seq
                              (.reg [] [⟨some 4, .move, [.k (.b true)], none⟩] [4] [])
                              .ret)))))))))))))))))))))))))))))
def a3 : AF := ⟨c3, [.tmp 4]⟩
/-- laws.szIntS -/
def c32 : AC :=
 (.seq
  (.reg [] [⟨some 4, .move, [.k (.i 0)], none⟩] [0, 1] [])
  (.seq
   (.reg [] [⟨some 5, .move, [.t 1], none⟩,
     ⟨some 6, .move, [.t 0], none⟩,
     ⟨some 7, .len, [.t 6], none⟩,
     ⟨some 8, .bin .sub, [.t 5, .t 7], none⟩,
     ⟨some 1, .move, [.t 8], none⟩] [1] [])
   (.seq
    (.seq
     (.reg [] [⟨some 9, .move, [.t 1], none⟩,
       ⟨some 10, .bin .lt, [.t 9, .k (.i 0)], none⟩] [1, 10] [])
     (.cond (.t 10)
      (.seq
       (.reg [] [⟨some 4, .move, [.k (.i (-1))], none⟩] [4] [])
       .ret)
      .skip))
    (.seq
     (.reg [] [⟨some 11, .move, [.t 1], none⟩,
       ⟨some 4, .move, [.t 11], none⟩] [4] [])
     .ret))))
def a32 : AF := ⟨c32, [.tmp 4]⟩
/-- laws.szPool -/
def c15 : AC :=
 (.seq
  (.reg [] [⟨some 2, .box, [.t 0], none⟩,
    ⟨some 4, .move, [.k (.i 0)], none⟩] [1, 2] [2])
  (.seq
   (.reg [] [⟨some 5, .faddr 0, [.t 2], none⟩,
     ⟨some 6, .load none false, [.t 5], none⟩,
     ⟨some 7, .move, [.t 1], none⟩,
     ⟨some 8, .call [] false, [.f 32, .t 6, .t 7], none⟩,
     ⟨some 1, .move, [.t 8], none⟩] [1, 2] [2])
   (.seq
    (.seq
     (.reg [] [⟨some 9, .move, [.t 1], none⟩,
       ⟨some 10, .bin .lt, [.t 9, .k (.i 0)], none⟩] [1, 2, 10] [2])
     (.cond (.t 10)
      (.seq
       (.reg [] [⟨some 4, .move, [.k (.i (-1))], none⟩] [4] [])
       .ret)
      .skip))
    (.seq
     (.reg [] [⟨some 11, .faddr 1, [.t 2], none⟩,
       ⟨some 12, .load none false, [.t 11], none⟩,
       ⟨some 13, .move, [.t 1], none⟩,
       ⟨some 14, .call [] false, [.f 20, .t 12, .t 13], none⟩,
       ⟨some 1, .move, [.t 14], none⟩] [1] [])
     (.seq
      (.seq
       (.reg [] [⟨some 15, .move, [.t 1], none⟩,
         ⟨some 16, .bin .lt, [.t 15, .k (.i 0)], none⟩] [1, 16] [])
       (.cond (.t 16)
        (.seq
         (.reg [] [⟨some 4, .move, [.k (.i (-1))], none⟩] [4] [])
         .ret)
        .skip))
      (.seq
       (.reg [] [⟨some 17, .move, [.t 1], none⟩,
         ⟨some 4, .move, [.t 17], none⟩] [4] [])
       .ret))))))
def a15 : AF := ⟨c15, [.tmp 4]⟩
/-- laws.toPool -/
def c17 : AC :=
 (.seq
  (.reg [] [⟨some 1, .box, [.t 0], none⟩,
    ⟨some 2, .alloc [.nils, .nils], [], none⟩] [1, 2] [1, 2, 6, 10])
  (.seq
   (.reg [] [⟨some 3, .alloc [.nils, .nils], [], none⟩] [1, 2, 3] [1, 2, 3, 6, 10])
   (.seq
    (.reg [] [⟨some 4, .faddr 0, [.t 1], none⟩,
      ⟨some 5, .load none false, [.t 4], none⟩,
      ⟨some 6, .call [] false, [.f 8, .t 5], none⟩,
      ⟨some 7, .faddr 0, [.t 3], none⟩,
      ⟨none, .store 1 true, [.t 7, .t 6], none⟩] [1, 2, 3] [1, 2, 3, 6, 10])
    (.seq
     (.reg [] [⟨some 8, .faddr 1, [.t 1], none⟩,
       ⟨some 9, .load none false, [.t 8], none⟩,
       ⟨some 10, .call [] false, [.f 25, .t 9], none⟩,
       ⟨some 11, .faddr 1, [.t 3], none⟩,
       ⟨none, .store 1 true, [.t 11, .t 10], none⟩] [2, 3] [2, 3, 6, 10])
     (.seq
      (.reg [] [⟨some 12, .load (some 2) false, [.t 3], none⟩,
        ⟨none, .store 2 true, [.t 2, .t 12], none⟩] [2] [2, 6, 10])
      .ret)))))
def a17 : AF := ⟨c17, [.cell 2 (some 2)]⟩
/-- spec.l14Member -/
def c48 : AC :=
 (.seq
  (.reg [] [⟨some 1, .box, [.t 0], none⟩,
    ⟨some 2, .move, [.k (.b false)], none⟩] [1] [1])
  (.seq
   (.reg [] [⟨some 3, .faddr 0, [.t 1], none⟩,
     ⟨some 4, .load none false, [.t 3], none⟩,
     ⟨some 5, .bin .ne, [.t 4, .k (.i 0)], none⟩,
     ⟨some 6, .move, [.t 5], none⟩,
     ⟨some 7, .faddr 0, [.t 1], some (6, true)⟩,
     ⟨some 8, .load none false, [.t 7], some (6, true)⟩,
     ⟨some 9, .bin .ne, [.t 8, .k (.i 5)], some (6, true)⟩,
     ⟨some 10, .pick, [.t 6, .t 9, .k (.b false)], none⟩,
     ⟨some 11, .move, [.t 10], none⟩,
     ⟨some 12, .faddr 0, [.t 1], some (11, true)⟩,
     ⟨some 13, .load none false, [.t 12], some (11, true)⟩,
     ⟨some 14, .bin .ne, [.t 13, .k (.i 6)], some (11, true)⟩,
     ⟨some 15, .pick, [.t 11, .t 14, .k (.b false)], none⟩,
     ⟨some 16, .move, [.t 15], none⟩,
     ⟨some 17, .faddr 0, [.t 1], some (16, true)⟩,
     ⟨some 18, .load none false, [.t 17], some (16, true)⟩,
     ⟨some 19, .bin .eq, [.t 18, .k (.i 7)], some (16, true)⟩,
     ⟨some 20, .move, [.t 19], some (16, true)⟩,
     ⟨some 21, .faddr 1, [.t 1], some (20, true)⟩,
     ⟨some 22, .load none false, [.t 21], some (20, true)⟩,
     ⟨some 23, .faddr 2, [.t 1], some (20, true)⟩,
     ⟨some 24, .load none false, [.t 23], some (20, true)⟩,
     ⟨some 25, .bin .eq, [.t 22, .t 24], some (20, true)⟩,
     ⟨some 26, .pick, [.t 20, .t 25, .k (.b false)], some (16, true)⟩,
     ⟨some 27, .not, [.t 26], some (16, true)⟩,
     ⟨some 28, .pick, [.t 16, .t 27, .k (.b false)], none⟩,
     ⟨some 2, .move, [.t 28], none⟩] [2] [])
   .ret))
def a48 : AF := ⟨c48, [.tmp 2]⟩
def b33l0 : AC :=
 (.seq
  (.seq
   (.reg [] [⟨some 10, .move, [.t 3], none⟩,
     ⟨some 11, .faddr 0, [.t 1], none⟩,
     ⟨some 12, .load none false, [.t 11], none⟩,
     ⟨some 13, .len, [.t 12], none⟩,
     ⟨some 14, .bin .lt, [.t 10, .t 13], none⟩] [1, 3, 14] [1])
   (.cond (.t 14)
    .skip
    (.exit 0)))
  (.seq
   (.block 1
    (.seq
     (.reg [] [⟨some 17, .faddr 0, [.t 1], none⟩,
       ⟨some 18, .load none false, [.t 17], none⟩,
       ⟨some 19, .move, [.t 3], none⟩,
       ⟨some 20, .iaddr 1, [.t 18, .t 19], none⟩,
       ⟨some 21, .load none false, [.t 20], none⟩,
       ⟨some 22, .call [] false, [.f 40, .t 21, .k (.i 0), .k (.i 2)], none⟩,
       ⟨some 23, .not, [.t 22], none⟩] [1, 3, 23] [1])
     (.cond (.t 23)
      (.seq
       (.reg [] [⟨some 2, .move, [.k (.b false)], none⟩] [2] [])
       .ret)
      .skip)))
   (.reg [] [⟨some 15, .move, [.t 3], none⟩,
     ⟨some 16, .bin .add, [.t 15, .k (.i 1)], none⟩,
     ⟨some 3, .move, [.t 16], none⟩] [1, 3] [1])))
def c33l0 : AC := b33l0
theorem r33l0 (call lp s) : run call lp c33l0 s = run call lp b33l0 s := rfl
def b33l1 : AC :=
 (.seq
  (.seq
   (.reg [] [⟨some 51, .move, [.t 5], none⟩,
     ⟨some 52, .bin .lt, [.t 51, .k (.i 30)], none⟩] [1, 4, 5, 52] [1])
   (.cond (.t 52)
    .skip
    (.exit 4)))
  (.seq
   (.block 5
    (.seq
     (.reg [] [⟨some 55, .faddr 1, [.t 1], none⟩,
       ⟨some 56, .load none false, [.t 55], none⟩,
       ⟨some 57, .move, [.t 4], none⟩,
       ⟨some 58, .iaddr 4, [.t 56, .t 57], none⟩,
       ⟨some 59, .load (some 4) false, [.t 58], none⟩,
       ⟨some 60, .move, [.t 5], none⟩,
       ⟨some 61, .call [] false, [.f 39, .t 59, .t 60], none⟩] [1, 4, 5, 61] [1])
     (.cond (.t 61)
      (.seq
       (.reg [] [⟨some 2, .move, [.k (.b false)], none⟩] [2] [])
       .ret)
      .skip)))
   (.reg [] [⟨some 53, .move, [.t 5], none⟩,
     ⟨some 54, .bin .add, [.t 53, .k (.i 1)], none⟩,
     ⟨some 5, .move, [.t 54], none⟩] [1, 4, 5] [1])))
def c33l1 : AC := b33l1
theorem r33l1 (call lp s) : run call lp c33l1 s = run call lp b33l1 s := rfl
def b33l2 : AC :=
 (.seq
  (.seq
   (.reg [] [⟨some 24, .move, [.t 4], none⟩,
     ⟨some 25, .faddr 1, [.t 1], none⟩,
     ⟨some 26, .load none false, [.t 25], none⟩,
     ⟨some 27, .len, [.t 26], none⟩,
     ⟨some 28, .bin .lt, [.t 24, .t 27], none⟩] [1, 4, 28] [1])
   (.cond (.t 28)
    .skip
    (.exit 2)))
  (.seq
   (.block 3
    (.seq
     (.seq
      (.reg [] [⟨some 31, .faddr 1, [.t 1], none⟩,
        ⟨some 32, .load none false, [.t 31], none⟩,
        ⟨some 33, .move, [.t 4], none⟩,
        ⟨some 34, .iaddr 4, [.t 32, .t 33], none⟩,
        ⟨some 35, .load (some 4) false, [.t 34], none⟩,
        ⟨some 36, .call [] false, [.f 22, .t 35], none⟩,
        ⟨some 37, .not, [.t 36], none⟩,
        ⟨some 38, .move, [.t 37], none⟩,
        ⟨some 39, .faddr 1, [.t 1], some (38, false)⟩,
        ⟨some 40, .load none false, [.t 39], some (38, false)⟩,
        ⟨some 41, .move, [.t 4], some (38, false)⟩,
        ⟨some 42, .iaddr 4, [.t 40, .t 41], some (38, false)⟩,
        ⟨some 43, .load (some 4) false, [.t 42], some (38, false)⟩,
        ⟨some 44, .call [] false, [.f 48, .t 43], some (38, false)⟩,
        ⟨some 45, .not, [.t 44], some (38, false)⟩,
        ⟨some 46, .pick, [.t 38, .k (.b true), .t 45], none⟩] [1, 4, 46] [1])
      (.cond (.t 46)
       (.seq
        (.reg [] [⟨some 2, .move, [.k (.b false)], none⟩] [2] [])
        .ret)
       .skip))
     (.seq
      (.reg [] [⟨some 47, .faddr 0, [.t 1], none⟩,
        ⟨some 48, .load none false, [.t 47], none⟩,
        ⟨some 49, .len, [.t 48], none⟩,
        ⟨some 50, .bin .add, [.k (.i 6), .t 49], none⟩,
        ⟨some 5, .move, [.t 50], none⟩] [1, 4, 5] [1])
      (.block 4
       (.loop [1, 4, 5] [1] c33l1)))))
   (.reg [] [⟨some 29, .move, [.t 4], none⟩,
     ⟨some 30, .bin .add, [.t 29, .k (.i 1)], none⟩,
     ⟨some 4, .move, [.t 30], none⟩] [1, 4] [1])))
def c33l2 : AC := b33l2
theorem r33l2 (call lp s) : run call lp c33l2 s = run call lp b33l2 s := rfl
/-- spec.PoolOk -/
def c33 : AC :=
 (.seq
  (.reg [] [⟨some 1, .box, [.t 0], none⟩,
    ⟨some 2, .move, [.k (.b false)], none⟩] [1] [1])
  (.seq
   (.seq
    (.reg [] [⟨some 6, .faddr 0, [.t 1], none⟩,
      ⟨some 7, .load none false, [.t 6], none⟩,
      ⟨some 8, .len, [.t 7], none⟩,
      ⟨some 9, .bin .gt, [.t 8, .k (.i 4)], none⟩] [1, 9] [1])
    (.cond (.t 9)
     (.seq
      (.reg [] [⟨some 2, .move, [.k (.b false)], none⟩] [2] [])
      .ret)
     .skip))
   (.seq
    (.seq
     (.reg [] [⟨some 3, .move, [.k (.i 0)], none⟩] [1, 3] [1])
     (.block 0
      (.loop [1, 3] [1] c33l0)))
    (.seq
     (.seq
      (.reg [] [⟨some 4, .move, [.k (.i 0)], none⟩] [1, 4] [1])
      (.block 2
       (.loop [1, 4] [1] c33l2)))
     (.seq
      (.reg [] [⟨some 2, .move, [.k (.b true)], none⟩] [2] [])
      .ret)))))
def a33 : AF := ⟨c33, [.tmp 2]⟩
def b16l0 : AC :=
 (.seq
  (.seq
   (.reg [] [⟨some 26, .move, [.t 8], none⟩,
     ⟨some 27, .faddr 0, [.t 3], none⟩,
     ⟨some 28, .load none false, [.t 27], none⟩,
     ⟨some 29, .len, [.t 28], none⟩,
     ⟨some 30, .bin .lt, [.t 26, .t 29], none⟩] [2, 3, 7, 8, 30] [3, 23, 25])
   (.cond (.t 30)
    .skip
    (.exit 0)))
  (.seq
   (.block 1
    (.reg [] [⟨some 33, .move, [.t 7], none⟩,
      ⟨some 34, .move, [.t 8], none⟩,
      ⟨some 35, .bin .add, [.k (.i 6), .t 34], none⟩,
      ⟨some 36, .faddr 0, [.t 3], none⟩,
      ⟨some 37, .load none false, [.t 36], none⟩,
      ⟨some 38, .move, [.t 8], none⟩,
      ⟨some 39, .iaddr 1, [.t 37, .t 38], none⟩,
      ⟨some 40, .load none false, [.t 39], none⟩,
      ⟨some 41, .iaddr 1, [.t 33, .t 35], none⟩,
      ⟨none, .store 1 true, [.t 41, .t 40], none⟩] [2, 3, 7, 8] [3, 23, 25]))
   (.reg [] [⟨some 31, .move, [.t 8], none⟩,
     ⟨some 32, .bin .add, [.t 31, .k (.i 1)], none⟩,
     ⟨some 8, .move, [.t 32], none⟩] [2, 3, 7, 8] [3, 23, 25])))
def c16l0 : AC := b16l0
theorem r16l0 (call lp s) : run call lp c16l0 s = run call lp b16l0 s := rfl
def b16l1 : AC :=
 (.seq
  (.seq
   (.reg [] [⟨some 42, .move, [.t 9], none⟩,
     ⟨some 43, .faddr 1, [.t 3], none⟩,
     ⟨some 44, .load none false, [.t 43], none⟩,
     ⟨some 45, .len, [.t 44], none⟩,
     ⟨some 46, .bin .lt, [.t 42, .t 45], none⟩] [2, 3, 7, 9, 46] [3, 23, 25])
   (.cond (.t 46)
    .skip
    (.exit 2)))
  (.seq
   (.block 3
    (.seq
     (.reg [] [⟨some 49, .faddr 1, [.t 3], none⟩,
       ⟨some 50, .load none false, [.t 49], none⟩,
       ⟨some 51, .move, [.t 9], none⟩,
       ⟨some 52, .iaddr 4, [.t 50, .t 51], none⟩,
       ⟨some 53, .load (some 4) false, [.t 52], none⟩,
       ⟨some 54, .move, [.t 7], none⟩,
       ⟨some 55, .move, [.t 2], none⟩,
       ⟨some 56, .call [] false, [.f 34, .t 53, .t 54, .t 55], none⟩,
       ⟨some 57, .not, [.t 56], none⟩] [2, 3, 7, 9, 57] [3, 23, 25])
     (.cond (.t 57)
      (.seq
       (.reg [] [⟨some 6, .move, [.k (.b false)], none⟩] [6] [])
       .ret)
      .skip)))
   (.reg [] [⟨some 47, .move, [.t 9], none⟩,
     ⟨some 48, .bin .add, [.t 47, .k (.i 1)], none⟩,
     ⟨some 9, .move, [.t 48], none⟩] [2, 3, 7, 9] [3, 23, 25])))
def c16l1 : AC := b16l1
theorem r16l1 (call lp s) : run call lp c16l1 s = run call lp b16l1 s := rfl
/-- spec.PoolSorted -/
def c16 : AC :=
 (.seq
  (.reg [] [⟨some 3, .box, [.t 0], none⟩,
    ⟨some 6, .move, [.k (.b false)], none⟩] [1, 2, 3] [3])
  (.seq
   (.seq
    (.reg [] [⟨some 10, .load (some 2) false, [.t 3], none⟩,
      ⟨some 11, .call [] false, [.f 33, .t 10], none⟩,
      ⟨some 12, .not, [.t 11], none⟩,
      ⟨some 13, .move, [.t 12], none⟩,
      ⟨some 14, .move, [.t 1], some (13, false)⟩,
      ⟨some 15, .call [] false, [.f 23, .t 14, .k (.i 30)], some (13, false)⟩,
      ⟨some 16, .not, [.t 15], some (13, false)⟩,
      ⟨some 17, .pick, [.t 13, .k (.b true), .t 16], none⟩,
      ⟨some 18, .move, [.t 17], none⟩,
      ⟨some 19, .move, [.t 2], some (18, false)⟩,
      ⟨some 20, .call [] false, [.f 23, .t 19, .k (.i 3)], some (18, false)⟩,
      ⟨some 21, .not, [.t 20], some (18, false)⟩,
      ⟨some 22, .pick, [.t 18, .k (.b true), .t 21], none⟩] [1, 2, 3, 22] [3])
    (.cond (.t 22)
     (.seq
      (.reg [] [⟨some 6, .move, [.k (.b false)], none⟩] [6] [])
      .ret)
     .skip))
   (.seq
    (.reg [] [⟨some 23, .bslice 1 true, [], none⟩,
      ⟨some 24, .move, [.t 1], none⟩,
      ⟨some 25, .append 1 true, [.t 23, .t 24], none⟩,
      ⟨some 7, .move, [.t 25], none⟩] [2, 3, 7] [3, 23, 25])
    (.seq
     (.seq
      (.reg [] [⟨some 8, .move, [.k (.i 0)], none⟩] [2, 3, 7, 8] [3, 23, 25])
      (.block 0
       (.loop [2, 3, 7, 8] [3, 23, 25] c16l0)))
     (.seq
      (.seq
       (.reg [] [⟨some 9, .move, [.k (.i 0)], none⟩] [2, 3, 7, 9] [3, 23, 25])
       (.block 2
        (.loop [2, 3, 7, 9] [3, 23, 25] c16l1)))
      (.seq
       (.reg [] [⟨some 6, .move, [.k (.b true)], none⟩] [6] [])
       .ret))))))
def a16 : AF := ⟨c16, [.tmp 6]⟩
def b50l0 : AC :=
 (.seq
  (.reg [] [⟨some 40, .bin .lt, [.t 39, .k (.i 30)], none⟩] [1, 38, 39, 40] [])
  (.seq
   (.cond (.t 40)
    .skip
    (.exit 0))
   (.seq
    (.block 1
     (.seq
      (.reg [] [⟨some 41, .move, [.t 39], none⟩,
        ⟨some 42, .idx none 1 30, [.t 38, .t 39], none⟩,
        ⟨some 5, .move, [.t 41], none⟩,
        ⟨some 6, .move, [.t 42], none⟩] [1, 5, 6, 38, 39] [])
      (.seq
       (.reg [] [⟨some 43, .move, [.t 6], none⟩,
         ⟨some 44, .move, [.t 43], none⟩,
         ⟨some 45, .move, [.t 5], some (44, true)⟩,
         ⟨some 46, .move, [.t 1], some (44, true)⟩,
         ⟨some 47, .bin .add, [.k (.i 6), .t 46], some (44, true)⟩,
         ⟨some 48, .bin .ge, [.t 45, .t 47], some (44, true)⟩,
         ⟨some 49, .pick, [.t 44, .t 48, .k (.b false)], none⟩] [1, 38, 39, 49] [])
       (.cond (.t 49)
        (.seq
         (.reg [] [⟨some 4, .move, [.k (.b false)], none⟩] [4] [])
         .ret)
        .skip))))
    (.reg [] [⟨some 50, .bin .add, [.t 39, .k (.i 1)], none⟩,
      ⟨some 39, .move, [.t 50], none⟩] [1, 38, 39] []))))
def c50l0 : AC := b50l0
theorem r50l0 (call lp s) : run call lp c50l0 s = run call lp b50l0 s := rfl
/-- impl.memberOk -/
def c50 : AC :=
 (.seq
  (.reg [] [⟨some 2, .box, [.t 0], none⟩,
    ⟨some 4, .move, [.k (.b false)], none⟩] [1, 2] [2])
  (.seq
   (.seq
    (.reg [] [⟨some 7, .load (some 4) false, [.t 2], none⟩,
      ⟨some 8, .call [] false, [.f 27, .t 7], none⟩,
      ⟨some 9, .not, [.t 8], none⟩,
      ⟨some 10, .move, [.t 9], none⟩,
      ⟨some 11, .faddr 0, [.t 2], some (10, false)⟩,
      ⟨some 12, .load none false, [.t 11], some (10, false)⟩,
      ⟨some 13, .bin .eq, [.t 12, .k (.i 0)], some (10, false)⟩,
      ⟨some 14, .pick, [.t 10, .k (.b true), .t 13], none⟩,
      ⟨some 15, .move, [.t 14], none⟩,
      ⟨some 16, .faddr 0, [.t 2], some (15, false)⟩,
      ⟨some 17, .load none false, [.t 16], some (15, false)⟩,
      ⟨some 18, .bin .eq, [.t 17, .k (.i 5)], some (15, false)⟩,
      ⟨some 19, .pick, [.t 15, .k (.b true), .t 18], none⟩,
      ⟨some 20, .move, [.t 19], none⟩,
      ⟨some 21, .faddr 0, [.t 2], some (20, false)⟩,
      ⟨some 22, .load none false, [.t 21], some (20, false)⟩,
      ⟨some 23, .bin .eq, [.t 22, .k (.i 6)], some (20, false)⟩,
      ⟨some 24, .pick, [.t 20, .k (.b true), .t 23], none⟩,
      ⟨some 25, .move, [.t 24], none⟩,
      ⟨some 26, .faddr 0, [.t 2], some (25, false)⟩,
      ⟨some 27, .load none false, [.t 26], some (25, false)⟩,
      ⟨some 28, .bin .eq, [.t 27, .k (.i 7)], some (25, false)⟩,
      ⟨some 29, .move, [.t 28], some (25, false)⟩,
      ⟨some 30, .faddr 1, [.t 2], some (29, true)⟩,
      ⟨some 31, .load none false, [.t 30], some (29, true)⟩,
      ⟨some 32, .faddr 2, [.t 2], some (29, true)⟩,
      ⟨some 33, .load none false, [.t 32], some (29, true)⟩,
      ⟨some 34, .bin .eq, [.t 31, .t 33], some (29, true)⟩,
      ⟨some 35, .pick, [.t 29, .t 34, .k (.b false)], some (25, false)⟩,
      ⟨some 36, .pick, [.t 25, .k (.b true), .t 35], none⟩] [1, 2, 36] [2])
    (.cond (.t 36)
     (.seq
      (.reg [] [⟨some 4, .move, [.k (.b false)], none⟩] [4] [])
      .ret)
     .skip))
   (.seq
    (.seq
     (.reg [] [⟨some 37, .load (some 4) false, [.t 2], none⟩,
       ⟨some 38, .call [] false, [.f 42, .t 37], none⟩,
       ⟨some 39, .move, [.k (.i 0)], none⟩] [1, 38, 39] [])
     (.block 0
      (.loop [1, 38, 39] [] c50l0)))
    (.seq
     (.reg [] [⟨some 4, .move, [.k (.b true)], none⟩] [4] [])
     .ret))))
def a50 : AF := ⟨c50, [.tmp 4]⟩
/-- impl.PoolOk$1 -/
def c49 : AC :=
 (.seq
  (.reg [] [⟨some 2, .box, [.t 0], none⟩,
    ⟨some 3, .move, [.k (.b false)], none⟩] [1, 2] [2])
  (.seq
   (.reg [] [⟨some 4, .load (some 4) false, [.t 2], none⟩,
     ⟨some 5, .faddr 0, [.t 1], none⟩,
     ⟨some 6, .load none false, [.t 5], none⟩,
     ⟨some 7, .len, [.t 6], none⟩,
     ⟨some 8, .call [] false, [.f 50, .t 4, .t 7], none⟩,
     ⟨some 9, .not, [.t 8], none⟩,
     ⟨some 3, .move, [.t 9], none⟩] [3] [])
   .ret))
def a49 : AF := ⟨c49, [.tmp 3]⟩
def b35l0 : AC :=
 (.seq
  (.reg [] [⟨some 13, .bin .lt, [.t 12, .t 11], none⟩] [1, 10, 11, 12, 13] [1])
  (.seq
   (.cond (.t 13)
    .skip
    (.exit 0))
   (.seq
    (.block 1
     (.seq
      (.reg [] [⟨some 14, .iaddr 1, [.t 10, .t 12], none⟩,
        ⟨some 15, .load none false, [.t 14], none⟩,
        ⟨some 4, .move, [.t 15], none⟩] [1, 4, 10, 11, 12] [1])
      (.seq
       (.reg [] [⟨some 16, .move, [.t 4], none⟩,
         ⟨some 17, .bin .lt, [.t 16, .k (.i 0)], none⟩,
         ⟨some 18, .move, [.t 17], none⟩,
         ⟨some 19, .move, [.t 4], some (18, false)⟩,
         ⟨some 20, .bin .ge, [.t 19, .k (.i 3)], some (18, false)⟩,
         ⟨some 21, .pick, [.t 18, .k (.b true), .t 20], none⟩] [1, 10, 11, 12, 21] [1])
       (.cond (.t 21)
        (.seq
         (.reg [] [⟨some 2, .move, [.k (.b false)], none⟩] [2] [])
         .ret)
        .skip))))
    (.reg [] [⟨some 22, .bin .add, [.t 12, .k (.i 1)], none⟩,
      ⟨some 12, .move, [.t 22], none⟩] [1, 10, 11, 12] [1]))))
def c35l0 : AC := b35l0
theorem r35l0 (call lp s) : run call lp c35l0 s = run call lp b35l0 s := rfl
/-- impl.PoolOk -/
def c35 : AC :=
 (.seq
  (.reg [] [⟨some 1, .box, [.t 0], none⟩,
    ⟨some 2, .move, [.k (.b false)], none⟩] [1] [1])
  (.seq
   (.seq
    (.reg [] [⟨some 5, .faddr 0, [.t 1], none⟩,
      ⟨some 6, .load none false, [.t 5], none⟩,
      ⟨some 7, .len, [.t 6], none⟩,
      ⟨some 8, .bin .gt, [.t 7, .k (.i 4)], none⟩] [1, 8] [1])
    (.cond (.t 8)
     (.seq
      (.reg [] [⟨some 2, .move, [.k (.b false)], none⟩] [2] [])
      .ret)
     .skip))
   (.seq
    (.seq
     (.reg [] [⟨some 9, .faddr 0, [.t 1], none⟩,
       ⟨some 10, .load none false, [.t 9], none⟩,
       ⟨some 11, .len, [.t 10], none⟩,
       ⟨some 12, .move, [.k (.i 0)], none⟩] [1, 10, 11, 12] [1])
     (.block 0
      (.loop [1, 10, 11, 12] [1] c35l0)))
    (.seq
     (.reg [] [⟨some 23, .faddr 1, [.t 1], none⟩,
       ⟨some 24, .load none false, [.t 23], none⟩,
       ⟨some 25, .mkfunc 49, [.t 1], none⟩,
       ⟨some 26, .call [] false, [.f 37, .t 24, .t 25], none⟩,
       ⟨some 27, .not, [.t 26], none⟩,
       ⟨some 2, .move, [.t 27], none⟩] [2] [])
     .ret))))
def a35 : AF := ⟨c35, [.tmp 2]⟩
/-- impl.PoolSorted$1 -/
def c38 : AC :=
 (.seq
  (.reg [] [⟨some 3, .box, [.t 0], none⟩,
    ⟨some 4, .move, [.k (.b false)], none⟩] [1, 2, 3] [3])
  (.seq
   (.reg [] [⟨some 5, .load (some 4) false, [.t 3], none⟩,
     ⟨some 6, .load none false, [.t 1], none⟩,
     ⟨some 7, .load none false, [.t 2], none⟩,
     ⟨some 8, .call [] false, [.f 29, .t 5, .t 6, .t 7], none⟩,
     ⟨some 9, .not, [.t 8], none⟩,
     ⟨some 4, .move, [.t 9], none⟩] [4] [])
   .ret))
def a38 : AF := ⟨c38, [.tmp 4]⟩
-- BAD 18 loop.example/mobilenames/impl.PoolSorted: op slice
/-- laws.eqPool -/
def c19 : AC :=
 (.seq
  (.reg [] [⟨some 2, .box, [.t 0], none⟩,
    ⟨some 3, .box, [.t 1], none⟩,
    ⟨some 4, .move, [.k (.b false)], none⟩] [2, 3] [2, 3])
  (.seq
   (.seq
    (.reg [] [⟨some 5, .faddr 0, [.t 2], none⟩,
      ⟨some 6, .load none false, [.t 5], none⟩,
      ⟨some 7, .faddr 0, [.t 3], none⟩,
      ⟨some 8, .load none false, [.t 7], none⟩,
      ⟨some 9, .call [] false, [.f 10, .t 6, .t 8], none⟩,
      ⟨some 10, .not, [.t 9], none⟩] [2, 3, 10] [2, 3])
    (.cond (.t 10)
     (.seq
      (.reg [] [⟨some 4, .move, [.k (.b false)], none⟩] [4] [])
      .ret)
     .skip))
   (.seq
    (.seq
     (.reg [] [⟨some 11, .faddr 1, [.t 2], none⟩,
       ⟨some 12, .load none false, [.t 11], none⟩,
       ⟨some 13, .faddr 1, [.t 3], none⟩,
       ⟨some 14, .load none false, [.t 13], none⟩,
       ⟨some 15, .call [] false, [.f 30, .t 12, .t 14], none⟩,
       ⟨some 16, .not, [.t 15], none⟩] [16] [])
     (.cond (.t 16)
      (.seq
       (.reg [] [⟨some 4, .move, [.k (.b false)], none⟩] [4] [])
       .ret)
      .skip))
    (.seq
     (.reg [] [⟨some 4, .move, [.k (.b true)], none⟩] [4] [])
     .ret))))
def a19 : AF := ⟨c19, [.tmp 4]⟩
/-- laws.FnExactPoolSorted -/
def c4 : AC :=
 (.seq
  (.reg [] [⟨some 3, .box, [.t 0], none⟩,
    ⟨some 6, .move, [.k (.b false)], none⟩] [1, 2, 3] [3])
  (.seq
   (.seq
    (.reg [] [⟨some 13, .move, [.t 1], none⟩,
      ⟨some 14, .len, [.t 13], none⟩,
      ⟨some 15, .bin .gt, [.t 14, .k (.i 1048576)], none⟩] [1, 2, 3, 15] [3])
    (.cond (.t 15)
     (.seq
      (.reg [] [⟨some 6, .move, [.k (.b true)], none⟩] [6] [])
      .ret)
     .skip))
   (.seq
    (.seq
     (.reg [] [⟨some 16, .move, [.t 2], none⟩,
       ⟨some 17, .len, [.t 16], none⟩,
       ⟨some 18, .bin .gt, [.t 17, .k (.i 1048576)], none⟩] [1, 2, 3, 18] [3])
     (.cond (.t 18)
      (.seq
       (.reg [] [⟨some 6, .move, [.k (.b true)], none⟩] [6] [])
       .ret)
      .skip))
    (.seq
     (.reg [] [⟨some 7, .move, [.k (.i 1048576)], none⟩] [1, 2, 3, 7] [3])
     (.seq
      (.reg [] [⟨some 19, .load (some 2) false, [.t 3], none⟩,
        ⟨some 20, .move, [.t 7], none⟩,
        ⟨some 21, .call [] false, [.f 15, .t 19, .t 20], none⟩,
        ⟨some 7, .move, [.t 21], none⟩] [1, 2, 3, 7] [3])
      (.seq
       (.seq
        (.reg [] [⟨some 22, .move, [.t 7], none⟩,
          ⟨some 23, .bin .lt, [.t 22, .k (.i 0)], none⟩] [1, 2, 3, 23] [3])
        (.cond (.t 23)
         (.seq
          (.reg [] [⟨some 6, .move, [.k (.b true)], none⟩] [6] [])
          .ret)
         .skip))
       (.seq
        (.reg [] [⟨some 24, .load (some 2) false, [.t 3], none⟩,
          ⟨some 25, .call [] false, [.f 17, .t 24], none⟩,
          ⟨some 26, .move, [.t 1], none⟩,
          ⟨some 27, .call [] false, [.f 8, .t 26], none⟩,
          ⟨some 28, .move, [.t 2], none⟩,
          ⟨some 29, .call [] false, [.f 8, .t 28], none⟩,
          ⟨some 30, .call [] false, [.f 16, .t 25, .t 27, .t 29], none⟩,
          ⟨some 8, .move, [.t 30], none⟩] [1, 2, 3, 8] [3])
        (.seq
         (.reg [] [⟨some 31, .load (some 2) false, [.t 3], none⟩,
           ⟨some 32, .call [] false, [.f 17, .t 31], none⟩,
           ⟨some 9, .alloc [.nils, .nils], [], none⟩,
           ⟨none, .store 2 true, [.t 9, .t 32], none⟩] [1, 2, 3, 8, 9] [3, 9, 32, 1032])
         (.seq
          (.reg [] [⟨some 33, .move, [.t 1], none⟩,
            ⟨some 34, .call [] false, [.f 8, .t 33], none⟩,
            ⟨some 10, .move, [.t 34], none⟩] [1, 2, 3, 8, 9, 10] [3, 9, 32, 34, 1032])
          (.seq
           (.reg [] [⟨some 35, .move, [.t 2], none⟩,
             ⟨some 36, .call [] false, [.f 8, .t 35], none⟩,
             ⟨some 11, .move, [.t 36], none⟩] [1, 2, 3, 8, 9, 10, 11] [3, 9, 32, 34, 36, 1032])
           (.seq
            (.reg [] [⟨some 37, .load (some 2) false, [.t 9], none⟩,
              ⟨some 38, .move, [.t 10], none⟩,
              ⟨some 39, .move, [.t 11], none⟩,
              ⟨some 40, .call [] false, [.f 18, .t 37, .t 38, .t 39], none⟩,
              ⟨some 12, .move, [.t 40], none⟩] [1, 2, 3, 8, 9, 10, 11, 12] [3, 9, 32, 34, 36, 1032])
            (.seq
             (.seq
              (.reg [] [⟨some 41, .move, [.t 12], none⟩,
                ⟨some 42, .move, [.t 8], none⟩,
                ⟨some 43, .bne, [.t 41, .t 42], none⟩] [1, 2, 3, 9, 10, 11, 43] [3, 9, 32, 34, 36, 1032])
              (.cond (.t 43)
               (.seq
                (.reg [] [⟨some 6, .move, [.k (.b false)], none⟩] [6] [])
                .ret)
               .skip))
             (.seq
              (.seq
               (.reg [0, 1, 2, 4, 5] [⟨some 44, .load (some 2) false, [.t 9], none⟩,
                 ⟨some 45, .load (some 2) false, [.t 3], none⟩,
                 ⟨some 46, .call [] false, [.f 17, .t 45], none⟩,
                 ⟨none, .chk (.load (some 2) false), [.t 44, .t 9], none⟩,
                 ⟨some 47, .call [] false, [.f 19, .t 44, .t 46], none⟩,
                 ⟨some 48, .not, [.t 47], none⟩] [1, 2, 10, 11, 48] [34, 36])
               (.cond (.t 48)
                (.seq
                 (.reg [] [⟨some 6, .move, [.k (.b false)], none⟩] [6] [])
                 .ret)
                .skip))
              (.seq
               (.seq
                (.reg [] [⟨some 49, .move, [.t 10], none⟩,
                  ⟨some 50, .move, [.t 1], none⟩,
                  ⟨some 51, .call [] false, [.f 8, .t 50], none⟩,
                  ⟨some 52, .call [] false, [.f 10, .t 49, .t 51], none⟩,
                  ⟨some 53, .not, [.t 52], none⟩] [2, 11, 53] [36])
                (.cond (.t 53)
                 (.seq
                  (.reg [] [⟨some 6, .move, [.k (.b false)], none⟩] [6] [])
                  .ret)
                 .skip))
               (.seq
                (.seq
                 (.reg [] [⟨some 54, .move, [.t 11], none⟩,
                   ⟨some 55, .move, [.t 2], none⟩,
                   ⟨some 56, .call [] false, [.f 8, .t 55], none⟩,
                   ⟨some 57, .call [] false, [.f 10, .t 54, .t 56], none⟩,
                   ⟨some 58, .not, [.t 57], none⟩] [58] [])
                 (.cond (.t 58)
                  (.seq
                   (.reg [] [⟨some 6, .move, [.k (.b false)], none⟩] [6] [])
                   .ret)
                  .skip))
                (.seq
                 (.reg [] [⟨some 6, .move, [.k (.b true)], none⟩] [6] [])
                 .ret))))))))))))))))
def a4 : AF := ⟨c4, [.tmp 6]⟩
theorem ok20 : okF Try.prog 20 a20 = true := by kernel_rfl
theorem ok5 : okF Try.prog 5 a5 = true := by kernel_rfl
theorem ok25 : okF Try.prog 25 a25 = true := by kernel_rfl
theorem ok7 : okF Try.prog 7 a7 = true := by kernel_rfl
theorem ok8 : okF Try.prog 8 a8 = true := by kernel_rfl
theorem ok40 : okF Try.prog 40 a40 = true := by kernel_rfl
theorem ok54 : okF Try.prog 54 a54 = true := by kernel_rfl
theorem ok41 : okF Try.prog 41 a41 = true := by kernel_rfl
theorem ok22 : okF Try.prog 22 a22 = true := by kernel_rfl
theorem ok52 : okF Try.prog 52 a52 = true := by kernel_rfl
theorem ok53 : okF Try.prog 53 a53 = true := by kernel_rfl
theorem ok39 : okF Try.prog 39 a39 = true := by kernel_rfl
theorem ok21 : okF Try.prog 21 a21 = true := by kernel_rfl
theorem ok23 : okF Try.prog 23 a23 = true := by kernel_rfl
theorem ok34 : okF Try.prog 34 a34 = true := by kernel_rfl
theorem ok24 : okF Try.prog 24 a24 = true := by kernel_rfl
theorem ok6 : okF Try.prog 6 a6 = true := by kernel_rfl
theorem ok43 : okF Try.prog 43 a43 = true := by kernel_rfl
theorem ok57 : okF Try.prog 57 a57 = true := by kernel_rfl
theorem ok51 : okF Try.prog 51 a51 = true := by kernel_rfl
theorem ok37 : okF Try.prog 37 a37 = true := by kernel_rfl
theorem ok58 : okF Try.prog 58 a58 = true := by kernel_rfl
theorem ok44 : okF Try.prog 44 a44 = true := by kernel_rfl
theorem ok27 : okF Try.prog 27 a27 = true := by kernel_rfl
theorem ok55 : okF Try.prog 55 a55 = true := by kernel_rfl
theorem ok56 : okF Try.prog 56 a56 = true := by kernel_rfl
theorem ok42 : okF Try.prog 42 a42 = true := by kernel_rfl
theorem ok26 : okF Try.prog 26 a26 = true := by kernel_rfl
theorem ok59 : okF Try.prog 59 a59 = true := by kernel_rfl
theorem ok45 : okF Try.prog 45 a45 = true := by kernel_rfl
theorem ok46 : okF Try.prog 46 a46 = true := by kernel_rfl
theorem ok28 : okF Try.prog 28 a28 = true := by kernel_rfl
theorem ok36 : okF Try.prog 36 a36 = true := by kernel_rfl
theorem ok47 : okF Try.prog 47 a47 = true := by kernel_rfl
theorem ok29 : okF Try.prog 29 a29 = true := by kernel_rfl
theorem ok9 : okF Try.prog 9 a9 = true := by kernel_rfl
theorem ok10 : okF Try.prog 10 a10 = true := by kernel_rfl
theorem ok30 : okF Try.prog 30 a30 = true := by kernel_rfl
theorem ok11 : okF Try.prog 11 a11 = true := by kernel_rfl
theorem ok31 : okF Try.prog 31 a31 = true := by kernel_rfl
theorem ok12 : okF Try.prog 12 a12 = true := by kernel_rfl
theorem ok13 : okF Try.prog 13 a13 = true := by kernel_rfl
theorem ok14 : okF Try.prog 14 a14 = true := by kernel_rfl
theorem ok3 : okF Try.prog 3 a3 = true := by kernel_rfl
theorem ok32 : okF Try.prog 32 a32 = true := by kernel_rfl
theorem ok15 : okF Try.prog 15 a15 = true := by kernel_rfl
theorem ok17 : okF Try.prog 17 a17 = true := by kernel_rfl
theorem ok48 : okF Try.prog 48 a48 = true := by kernel_rfl
theorem ok33 : okF Try.prog 33 a33 = true := by kernel_rfl
theorem ok16 : okF Try.prog 16 a16 = true := by kernel_rfl
theorem ok50 : okF Try.prog 50 a50 = true := by kernel_rfl
theorem ok49 : okF Try.prog 49 a49 = true := by kernel_rfl
theorem ok35 : okF Try.prog 35 a35 = true := by kernel_rfl
theorem ok38 : okF Try.prog 38 a38 = true := by kernel_rfl
theorem ok19 : okF Try.prog 19 a19 = true := by kernel_rfl
theorem ok4 : okF Try.prog 4 a4 = true := by kernel_rfl
def codes : Nat → Option AF
  | 20 => some a20
  | 5 => some a5
  | 25 => some a25
  | 7 => some a7
  | 8 => some a8
  | 40 => some a40
  | 54 => some a54
  | 41 => some a41
  | 22 => some a22
  | 52 => some a52
  | 53 => some a53
  | 39 => some a39
  | 21 => some a21
  | 23 => some a23
  | 34 => some a34
  | 24 => some a24
  | 6 => some a6
  | 43 => some a43
  | 57 => some a57
  | 51 => some a51
  | 37 => some a37
  | 58 => some a58
  | 44 => some a44
  | 27 => some a27
  | 55 => some a55
  | 56 => some a56
  | 42 => some a42
  | 26 => some a26
  | 59 => some a59
  | 45 => some a45
  | 46 => some a46
  | 28 => some a28
  | 36 => some a36
  | 47 => some a47
  | 29 => some a29
  | 9 => some a9
  | 10 => some a10
  | 30 => some a30
  | 11 => some a11
  | 31 => some a31
  | 12 => some a12
  | 13 => some a13
  | 14 => some a14
  | 3 => some a3
  | 32 => some a32
  | 15 => some a15
  | 17 => some a17
  | 48 => some a48
  | 33 => some a33
  | 16 => some a16
  | 50 => some a50
  | 49 => some a49
  | 35 => some a35
  | 38 => some a38
  | 19 => some a19
  | 4 => some a4
  | _ => none
def G : Prog := ⟨codes, fun _ => none⟩
@[simp] theorem g20 : G.code 20 = some a20 := rfl
@[simp] theorem g5 : G.code 5 = some a5 := rfl
@[simp] theorem g25 : G.code 25 = some a25 := rfl
@[simp] theorem g7 : G.code 7 = some a7 := rfl
@[simp] theorem g8 : G.code 8 = some a8 := rfl
@[simp] theorem g40 : G.code 40 = some a40 := rfl
@[simp] theorem g54 : G.code 54 = some a54 := rfl
@[simp] theorem g41 : G.code 41 = some a41 := rfl
@[simp] theorem g22 : G.code 22 = some a22 := rfl
@[simp] theorem g52 : G.code 52 = some a52 := rfl
@[simp] theorem g53 : G.code 53 = some a53 := rfl
@[simp] theorem g39 : G.code 39 = some a39 := rfl
@[simp] theorem g21 : G.code 21 = some a21 := rfl
@[simp] theorem g23 : G.code 23 = some a23 := rfl
@[simp] theorem g34 : G.code 34 = some a34 := rfl
@[simp] theorem g24 : G.code 24 = some a24 := rfl
@[simp] theorem g6 : G.code 6 = some a6 := rfl
@[simp] theorem g43 : G.code 43 = some a43 := rfl
@[simp] theorem g57 : G.code 57 = some a57 := rfl
@[simp] theorem g51 : G.code 51 = some a51 := rfl
@[simp] theorem g37 : G.code 37 = some a37 := rfl
@[simp] theorem g58 : G.code 58 = some a58 := rfl
@[simp] theorem g44 : G.code 44 = some a44 := rfl
@[simp] theorem g27 : G.code 27 = some a27 := rfl
@[simp] theorem g55 : G.code 55 = some a55 := rfl
@[simp] theorem g56 : G.code 56 = some a56 := rfl
@[simp] theorem g42 : G.code 42 = some a42 := rfl
@[simp] theorem g26 : G.code 26 = some a26 := rfl
@[simp] theorem g59 : G.code 59 = some a59 := rfl
@[simp] theorem g45 : G.code 45 = some a45 := rfl
@[simp] theorem g46 : G.code 46 = some a46 := rfl
@[simp] theorem g28 : G.code 28 = some a28 := rfl
@[simp] theorem g36 : G.code 36 = some a36 := rfl
@[simp] theorem g47 : G.code 47 = some a47 := rfl
@[simp] theorem g29 : G.code 29 = some a29 := rfl
@[simp] theorem g9 : G.code 9 = some a9 := rfl
@[simp] theorem g10 : G.code 10 = some a10 := rfl
@[simp] theorem g30 : G.code 30 = some a30 := rfl
@[simp] theorem g11 : G.code 11 = some a11 := rfl
@[simp] theorem g31 : G.code 31 = some a31 := rfl
@[simp] theorem g12 : G.code 12 = some a12 := rfl
@[simp] theorem g13 : G.code 13 = some a13 := rfl
@[simp] theorem g14 : G.code 14 = some a14 := rfl
@[simp] theorem g3 : G.code 3 = some a3 := rfl
@[simp] theorem g32 : G.code 32 = some a32 := rfl
@[simp] theorem g15 : G.code 15 = some a15 := rfl
@[simp] theorem g17 : G.code 17 = some a17 := rfl
@[simp] theorem g48 : G.code 48 = some a48 := rfl
@[simp] theorem g33 : G.code 33 = some a33 := rfl
@[simp] theorem g16 : G.code 16 = some a16 := rfl
@[simp] theorem g50 : G.code 50 = some a50 := rfl
@[simp] theorem g49 : G.code 49 = some a49 := rfl
@[simp] theorem g35 : G.code 35 = some a35 := rfl
@[simp] theorem g38 : G.code 38 = some a38 := rfl
@[simp] theorem g19 : G.code 19 = some a19 := rfl
@[simp] theorem g4 : G.code 4 = some a4 := rfl
@[simp] theorem gp (n : Nat) : G.prim n = none := rfl
theorem progOK : ProgOK Try.prog G := by
  refine ⟨by kernel_rfl, fun f af _ h => ?_, fun f p h => by cases h⟩
  simp only [G] at h
  unfold codes at h
  split at h
  · cases h; exact ok20
  · cases h; exact ok5
  · cases h; exact ok25
  · cases h; exact ok7
  · cases h; exact ok8
  · cases h; exact ok40
  · cases h; exact ok54
  · cases h; exact ok41
  · cases h; exact ok22
  · cases h; exact ok52
  · cases h; exact ok53
  · cases h; exact ok39
  · cases h; exact ok21
  · cases h; exact ok23
  · cases h; exact ok34
  · cases h; exact ok24
  · cases h; exact ok6
  · cases h; exact ok43
  · cases h; exact ok57
  · cases h; exact ok51
  · cases h; exact ok37
  · cases h; exact ok58
  · cases h; exact ok44
  · cases h; exact ok27
  · cases h; exact ok55
  · cases h; exact ok56
  · cases h; exact ok42
  · cases h; exact ok26
  · cases h; exact ok59
  · cases h; exact ok45
  · cases h; exact ok46
  · cases h; exact ok28
  · cases h; exact ok36
  · cases h; exact ok47
  · cases h; exact ok29
  · cases h; exact ok9
  · cases h; exact ok10
  · cases h; exact ok30
  · cases h; exact ok11
  · cases h; exact ok31
  · cases h; exact ok12
  · cases h; exact ok13
  · cases h; exact ok14
  · cases h; exact ok3
  · cases h; exact ok32
  · cases h; exact ok15
  · cases h; exact ok17
  · cases h; exact ok48
  · cases h; exact ok33
  · cases h; exact ok16
  · cases h; exact ok50
  · cases h; exact ok49
  · cases h; exact ok35
  · cases h; exact ok38
  · cases h; exact ok19
  · cases h; exact ok4
  · cases h
end Go.Am
end
