/- The program in the machine's form. -/
import Derived.Test.YtlldnglfoajfcaaAmC
import Derived.Test.YtlldnglfoajfcaaProg
import Derived.KernelRfl
section
set_option maxRecDepth 100000
namespace Go.Am
open Go.Proofs
/-- laws.szIntS -/
def c70 : AC :=
 (.seq
  (.reg [] [⟨some 4, .move, [.k (.i 0)], none⟩] [0, 1] [])
  (.seq
   (.reg [] [⟨some 5, .move, [.t 1], none⟩,
     ⟨some 6, .move, [.t 0], none⟩,
     ⟨some 7, .len, [.t 6], none⟩,
     ⟨some 8, .bin .sub, [.t 5, .t 7], none⟩,
     ⟨some 1, .move, [.t 8], none⟩] [1] [])
   (.seq
    (.seq
     (.reg [] [⟨some 9, .move, [.t 1], none⟩,
       ⟨some 10, .bin .lt, [.t 9, .k (.i 0)], none⟩] [1, 10] [])
     (.cond (.t 10)
      (.seq
       (.reg [] [⟨some 4, .move, [.k (.i (-1))], none⟩] [4] [])
       .ret)
      .skip))
    (.seq
     (.reg [] [⟨some 11, .move, [.t 1], none⟩,
       ⟨some 4, .move, [.t 11], none⟩] [4] [])
     .ret))))
def a70 : AF := ⟨c70, [.tmp 4]⟩
/-- laws.szPi -/
def c126 : AC :=
 (.seq
  (.reg [] [⟨some 2, .box, [.t 0], none⟩,
    ⟨some 4, .move, [.k (.i 0)], none⟩] [1, 2] [2])
  (.seq
   (.reg [] [⟨some 5, .faddr 3, [.t 2], none⟩,
     ⟨some 6, .load none false, [.t 5], none⟩,
     ⟨some 7, .move, [.t 1], none⟩,
     ⟨some 8, .call [] false, [.f 71, .t 6, .t 7], none⟩,
     ⟨some 1, .move, [.t 8], none⟩] [1] [])
   (.seq
    (.seq
     (.reg [] [⟨some 9, .move, [.t 1], none⟩,
       ⟨some 10, .bin .lt, [.t 9, .k (.i 0)], none⟩] [1, 10] [])
     (.cond (.t 10)
      (.seq
       (.reg [] [⟨some 4, .move, [.k (.i (-1))], none⟩] [4] [])
       .ret)
      .skip))
    (.seq
     (.reg [] [⟨some 11, .move, [.t 1], none⟩,
       ⟨some 4, .move, [.t 11], none⟩] [4] [])
     .ret))))
def a126 : AF := ⟨c126, [.tmp 4]⟩
def b71l0 : AC :=
 (.seq
  (.seq
   (.reg [] [⟨some 12, .move, [.t 5], none⟩,
     ⟨some 13, .move, [.t 0], none⟩,
     ⟨some 14, .len, [.t 13], none⟩,
     ⟨some 15, .bin .lt, [.t 12, .t 14], none⟩] [0, 1, 5, 15] [])
   (.cond (.t 15)
    .skip
    (.exit 0)))
  (.seq
   (.block 1
    (.seq
     (.reg [] [⟨some 18, .move, [.t 0], none⟩,
       ⟨some 19, .move, [.t 5], none⟩,
       ⟨some 20, .iaddr 4, [.t 18, .t 19], none⟩,
       ⟨some 21, .load (some 4) false, [.t 20], none⟩,
       ⟨some 22, .move, [.t 1], none⟩,
       ⟨some 23, .call [] false, [.f 126, .t 21, .t 22], none⟩,
       ⟨some 1, .move, [.t 23], none⟩] [0, 1, 5] [])
     (.seq
      (.reg [] [⟨some 24, .move, [.t 1], none⟩,
        ⟨some 25, .bin .lt, [.t 24, .k (.i 0)], none⟩] [0, 1, 5, 25] [])
      (.cond (.t 25)
       (.seq
        (.reg [] [⟨some 4, .move, [.k (.i (-1))], none⟩] [4] [])
        .ret)
       .skip))))
   (.reg [] [⟨some 16, .move, [.t 5], none⟩,
     ⟨some 17, .bin .add, [.t 16, .k (.i 1)], none⟩,
     ⟨some 5, .move, [.t 17], none⟩] [0, 1, 5] [])))
def c71l0 : AC := b71l0
theorem r71l0 (call lp s) : run call lp c71l0 s = run call lp b71l0 s := rfl
/-- laws.szPiS -/
def c71 : AC :=
 (.seq
  (.reg [] [⟨some 4, .move, [.k (.i 0)], none⟩] [0, 1] [])
  (.seq
   (.reg [] [⟨some 6, .move, [.t 1], none⟩,
     ⟨some 7, .move, [.t 0], none⟩,
     ⟨some 8, .len, [.t 7], none⟩,
     ⟨some 9, .bin .sub, [.t 6, .t 8], none⟩,
     ⟨some 1, .move, [.t 9], none⟩] [0, 1] [])
   (.seq
    (.seq
     (.reg [] [⟨some 10, .move, [.t 1], none⟩,
       ⟨some 11, .bin .lt, [.t 10, .k (.i 0)], none⟩] [0, 1, 11] [])
     (.cond (.t 11)
      (.seq
       (.reg [] [⟨some 4, .move, [.k (.i (-1))], none⟩] [4] [])
       .ret)
      .skip))
    (.seq
     (.seq
      (.reg [] [⟨some 5, .move, [.k (.i 0)], none⟩] [0, 1, 5] [])
      (.block 0
       (.loop [0, 1, 5] [] c71l0)))
     (.seq
      (.reg [] [⟨some 26, .move, [.t 1], none⟩,
        ⟨some 4, .move, [.t 26], none⟩] [4] [])
      .ret)))))
def a71 : AF := ⟨c71, [.tmp 4]⟩
/-- laws.szPool -/
def c26 : AC :=
 (.seq
  (.reg [] [⟨some 2, .box, [.t 0], none⟩,
    ⟨some 4, .move, [.k (.i 0)], none⟩] [1, 2] [2])
  (.seq
   (.reg [] [⟨some 5, .faddr 0, [.t 2], none⟩,
     ⟨some 6, .load none false, [.t 5], none⟩,
     ⟨some 7, .move, [.t 1], none⟩,
     ⟨some 8, .call [] false, [.f 70, .t 6, .t 7], none⟩,
     ⟨some 1, .move, [.t 8], none⟩] [1, 2] [2])
   (.seq
    (.seq
     (.reg [] [⟨some 9, .move, [.t 1], none⟩,
       ⟨some 10, .bin .lt, [.t 9, .k (.i 0)], none⟩] [1, 2, 10] [2])
     (.cond (.t 10)
      (.seq
       (.reg [] [⟨some 4, .move, [.k (.i (-1))], none⟩] [4] [])
       .ret)
      .skip))
    (.seq
     (.reg [] [⟨some 11, .faddr 1, [.t 2], none⟩,
       ⟨some 12, .load none false, [.t 11], none⟩,
       ⟨some 13, .move, [.t 1], none⟩,
       ⟨some 14, .call [] false, [.f 71, .t 12, .t 13], none⟩,
       ⟨some 1, .move, [.t 14], none⟩] [1] [])
     (.seq
      (.seq
       (.reg [] [⟨some 15, .move, [.t 1], none⟩,
         ⟨some 16, .bin .lt, [.t 15, .k (.i 0)], none⟩] [1, 16] [])
       (.cond (.t 16)
        (.seq
         (.reg [] [⟨some 4, .move, [.k (.i (-1))], none⟩] [4] [])
         .ret)
        .skip))
      (.seq
       (.reg [] [⟨some 17, .move, [.t 1], none⟩,
         ⟨some 4, .move, [.t 17], none⟩] [4] [])
       .ret))))))
def a26 : AF := ⟨c26, [.tmp 4]⟩
def b29l0 : AC :=
 (.seq
  (.seq
   (.reg [] [⟨some 8, .move, [.t 4], none⟩,
     ⟨some 9, .move, [.t 0], none⟩,
     ⟨some 10, .len, [.t 9], none⟩,
     ⟨some 11, .bin .lt, [.t 8, .t 10], none⟩] [0, 3, 4, 11] [7])
   (.cond (.t 11)
    .skip
    (.exit 0)))
  (.seq
   (.block 1
    (.reg [] [⟨some 14, .move, [.t 3], none⟩,
      ⟨some 15, .move, [.t 4], none⟩,
      ⟨some 16, .move, [.t 0], none⟩,
      ⟨some 17, .move, [.t 4], none⟩,
      ⟨some 18, .iaddr 1, [.t 16, .t 17], none⟩,
      ⟨some 19, .load none false, [.t 18], none⟩,
      ⟨some 20, .iaddr 1, [.t 14, .t 15], none⟩,
      ⟨none, .store 1 true, [.t 20, .t 19], none⟩] [0, 3, 4] [7]))
   (.reg [] [⟨some 12, .move, [.t 4], none⟩,
     ⟨some 13, .bin .add, [.t 12, .k (.i 1)], none⟩,
     ⟨some 4, .move, [.t 13], none⟩] [0, 3, 4] [7])))
def c29l0 : AC := b29l0
theorem r29l0 (call lp s) : run call lp c29l0 s = run call lp b29l0 s := rfl
/-- laws.toIntS -/
def c29 : AC :=
 (.seq
  (.reg [] [⟨some 2, .move, [.k (.nils)], none⟩] [0] [])
  (.seq
   (.reg [] [⟨some 5, .move, [.t 0], none⟩,
     ⟨some 6, .len, [.t 5], none⟩,
     ⟨some 7, .mkslice 1 (.i 0), [.t 6, .t 6], none⟩,
     ⟨some 3, .move, [.t 7], none⟩] [0, 3] [7])
   (.seq
    (.seq
     (.reg [] [⟨some 4, .move, [.k (.i 0)], none⟩] [0, 3, 4] [7])
     (.block 0
      (.loop [0, 3, 4] [7] c29l0)))
    (.seq
     (.reg [] [⟨some 21, .move, [.t 3], none⟩,
       ⟨some 2, .move, [.t 21], none⟩] [2] [7])
     .ret))))
def a29 : AF := ⟨c29, [.tmp 2]⟩
/-- laws.toPi -/
def c130 : AC :=
 (.seq
  (.reg [] [⟨some 1, .box, [.t 0], none⟩,
    ⟨some 2, .alloc [.i 0, .i 0, .i 0, .nils], [], none⟩] [1, 2] [1, 2, 15])
  (.seq
   (.reg [] [⟨some 3, .alloc [.i 0, .i 0, .i 0, .nils], [], none⟩] [1, 2, 3] [1, 2, 3, 15])
   (.seq
    (.reg [] [⟨some 4, .faddr 0, [.t 1], none⟩,
      ⟨some 5, .load none false, [.t 4], none⟩,
      ⟨some 6, .faddr 0, [.t 3], none⟩,
      ⟨none, .store 1 true, [.t 6, .t 5], none⟩] [1, 2, 3] [1, 2, 3, 15])
    (.seq
     (.reg [] [⟨some 7, .faddr 1, [.t 1], none⟩,
       ⟨some 8, .load none false, [.t 7], none⟩,
       ⟨some 9, .faddr 1, [.t 3], none⟩,
       ⟨none, .store 1 true, [.t 9, .t 8], none⟩] [1, 2, 3] [1, 2, 3, 15])
     (.seq
      (.reg [] [⟨some 10, .faddr 2, [.t 1], none⟩,
        ⟨some 11, .load none false, [.t 10], none⟩,
        ⟨some 12, .faddr 2, [.t 3], none⟩,
        ⟨none, .store 1 true, [.t 12, .t 11], none⟩] [1, 2, 3] [1, 2, 3, 15])
      (.seq
       (.reg [] [⟨some 13, .faddr 3, [.t 1], none⟩,
         ⟨some 14, .load none false, [.t 13], none⟩,
         ⟨some 15, .call [] false, [.f 75, .t 14], none⟩,
         ⟨some 16, .faddr 3, [.t 3], none⟩,
         ⟨none, .store 1 true, [.t 16, .t 15], none⟩] [2, 3] [2, 3, 15])
       (.seq
        (.reg [] [⟨some 17, .load (some 4) false, [.t 3], none⟩,
          ⟨none, .store 4 true, [.t 2, .t 17], none⟩] [2] [2, 15])
        .ret)))))))
def a130 : AF := ⟨c130, [.cell 2 (some 4)]⟩
def b75l0 : AC :=
 (.seq
  (.seq
   (.reg [] [⟨some 8, .move, [.t 4], none⟩,
     ⟨some 9, .move, [.t 0], none⟩,
     ⟨some 10, .len, [.t 9], none⟩,
     ⟨some 11, .bin .lt, [.t 8, .t 10], none⟩] [0, 3, 4, 11] [7])
   (.cond (.t 11)
    .skip
    (.exit 0)))
  (.seq
   (.block 1
    (.reg [] [⟨some 14, .move, [.t 3], none⟩,
      ⟨some 15, .move, [.t 4], none⟩,
      ⟨some 16, .move, [.t 0], none⟩,
      ⟨some 17, .move, [.t 4], none⟩,
      ⟨some 18, .iaddr 4, [.t 16, .t 17], none⟩,
      ⟨some 19, .load (some 4) false, [.t 18], none⟩,
      ⟨some 20, .call [] false, [.f 130, .t 19], none⟩,
      ⟨some 21, .iaddr 4, [.t 14, .t 15], none⟩,
      ⟨none, .store 4 true, [.t 21, .t 20], none⟩] [0, 3, 4] [7]))
   (.reg [] [⟨some 12, .move, [.t 4], none⟩,
     ⟨some 13, .bin .add, [.t 12, .k (.i 1)], none⟩,
     ⟨some 4, .move, [.t 13], none⟩] [0, 3, 4] [7])))
def c75l0 : AC := b75l0
theorem r75l0 (call lp s) : run call lp c75l0 s = run call lp b75l0 s := rfl
/-- laws.toPiS -/
def c75 : AC :=
 (.seq
  (.reg [] [⟨some 2, .move, [.k (.nils)], none⟩] [0] [])
  (.seq
   (.reg [] [⟨some 5, .move, [.t 0], none⟩,
     ⟨some 6, .len, [.t 5], none⟩,
     ⟨some 7, .mkslice 4 (.agg [.i 0, .i 0, .i 0, .nils]), [.t 6, .t 6], none⟩,
     ⟨some 3, .move, [.t 7], none⟩] [0, 3] [7])
   (.seq
    (.seq
     (.reg [] [⟨some 4, .move, [.k (.i 0)], none⟩] [0, 3, 4] [7])
     (.block 0
      (.loop [0, 3, 4] [7] c75l0)))
    (.seq
     (.reg [] [⟨some 22, .move, [.t 3], none⟩,
       ⟨some 2, .move, [.t 22], none⟩] [2] [7])
     .ret))))
def a75 : AF := ⟨c75, [.tmp 2]⟩
/-- laws.toPool -/
def c28 : AC :=
 (.seq
  (.reg [] [⟨some 1, .box, [.t 0], none⟩,
    ⟨some 2, .alloc [.nils, .nils], [], none⟩] [1, 2] [1, 2, 6, 10])
  (.seq
   (.reg [] [⟨some 3, .alloc [.nils, .nils], [], none⟩] [1, 2, 3] [1, 2, 3, 6, 10])
   (.seq
    (.reg [] [⟨some 4, .faddr 0, [.t 1], none⟩,
      ⟨some 5, .load none false, [.t 4], none⟩,
      ⟨some 6, .call [] false, [.f 29, .t 5], none⟩,
      ⟨some 7, .faddr 0, [.t 3], none⟩,
      ⟨none, .store 1 true, [.t 7, .t 6], none⟩] [1, 2, 3] [1, 2, 3, 6, 10])
    (.seq
     (.reg [] [⟨some 8, .faddr 1, [.t 1], none⟩,
       ⟨some 9, .load none false, [.t 8], none⟩,
       ⟨some 10, .call [] false, [.f 75, .t 9], none⟩,
       ⟨some 11, .faddr 1, [.t 3], none⟩,
       ⟨none, .store 1 true, [.t 11, .t 10], none⟩] [2, 3] [2, 3, 6, 10])
     (.seq
      (.reg [] [⟨some 12, .load (some 2) false, [.t 3], none⟩,
        ⟨none, .store 2 true, [.t 2, .t 12], none⟩] [2] [2, 6, 10])
      .ret)))))
def a28 : AF := ⟨c28, [.cell 2 (some 2)]⟩
/-- spec.l6In -/
def c60 : AC :=
 (.seq
  (.reg [] [⟨some 6, .move, [.k (.b false)], none⟩] [0, 1, 2] [])
  (.seq
   (.reg [] [⟨some 7, .move, [.t 0], none⟩,
     ⟨some 8, .move, [.t 1], none⟩,
     ⟨some 9, .bin .ge, [.t 7, .t 8], none⟩,
     ⟨some 10, .move, [.t 9], none⟩,
     ⟨some 11, .move, [.t 0], some (10, true)⟩,
     ⟨some 12, .move, [.t 2], some (10, true)⟩,
     ⟨some 13, .bin .le, [.t 11, .t 12], some (10, true)⟩,
     ⟨some 14, .pick, [.t 10, .t 13, .k (.b false)], none⟩,
     ⟨some 6, .move, [.t 14], none⟩] [6] [])
   .ret))
def a60 : AF := ⟨c60, [.tmp 6]⟩
/-- spec.l13Name -/
def c171 : AC :=
 (.seq
  (.reg [] [⟨some 2, .move, [.k (.b false)], none⟩] [0] [])
  (.seq
   (.reg [] [⟨some 3, .move, [.t 0], none⟩,
     ⟨some 4, .call [] false, [.f 60, .t 3, .k (.i 0), .k (.i 29)], none⟩,
     ⟨some 2, .move, [.t 4], none⟩] [2] [])
   .ret))
def a171 : AF := ⟨c171, [.tmp 2]⟩
def b155l0 : AC :=
 (.seq
  (.seq
   (.reg [] [⟨some 70, .move, [.t 6], none⟩,
     ⟨some 71, .move, [.t 3], none⟩,
     ⟨some 72, .bin .lt, [.t 70, .t 71], none⟩] [1, 3, 5, 6, 72] [1])
   (.cond (.t 72)
    .skip
    (.exit 1)))
  (.seq
   (.block 2
    (.seq
     (.reg [] [⟨some 75, .faddr 3, [.t 1], none⟩,
       ⟨some 76, .load none false, [.t 75], none⟩,
       ⟨some 77, .move, [.t 6], none⟩,
       ⟨some 78, .iaddr 4, [.t 76, .t 77], none⟩,
       ⟨some 79, .load (some 4) false, [.t 78], none⟩,
       ⟨some 80, .call [] false, [.f 155, .t 79], none⟩,
       ⟨some 7, .move, [.t 80], none⟩] [1, 3, 5, 6, 7] [1])
     (.seq
      (.seq
       (.reg [] [⟨some 81, .move, [.t 7], none⟩,
         ⟨some 82, .bin .eq, [.t 81, .k (.i 0)], none⟩] [1, 3, 5, 6, 7, 82] [1])
       (.cond (.t 82)
        (.seq
         (.reg [] [⟨some 2, .move, [.k (.i 0)], none⟩] [2] [])
         .ret)
        .skip))
      (.reg [] [⟨some 83, .move, [.t 5], none⟩,
        ⟨some 84, .move, [.t 7], none⟩,
        ⟨some 85, .bin .add, [.t 83, .t 84], none⟩,
        ⟨some 86, .min2, [.k (.i 1000), .t 85], none⟩,
        ⟨some 5, .move, [.t 86], none⟩] [1, 3, 5, 6] [1]))))
   (.reg [] [⟨some 73, .move, [.t 6], none⟩,
     ⟨some 74, .bin .add, [.t 73, .k (.i 1)], none⟩,
     ⟨some 6, .move, [.t 74], none⟩] [1, 3, 5, 6] [1])))
def c155l0 : AC := b155l0
theorem r155l0 (call lp s) : run call lp c155l0 s = run call lp b155l0 s := rfl
/-- spec.l13Nodes -/
def c155 : AC :=
 (.seq
  (.reg [] [⟨some 1, .box, [.t 0], none⟩,
    ⟨some 2, .move, [.k (.i 0)], none⟩] [1] [1])
  (.seq
   (.reg [] [⟨some 3, .move, [.k (.i 1)], none⟩] [1, 3] [1])
   (.seq
    (.reg [] [⟨some 8, .faddr 1, [.t 1], none⟩,
      ⟨some 9, .load none false, [.t 8], none⟩,
      ⟨some 10, .call [] false, [.f 171, .t 9], none⟩,
      ⟨some 11, .move, [.t 10], none⟩,
      ⟨some 12, .faddr 2, [.t 1], some (11, true)⟩,
      ⟨some 13, .load none false, [.t 12], some (11, true)⟩,
      ⟨some 14, .call [] false, [.f 171, .t 13], some (11, true)⟩,
      ⟨some 15, .pick, [.t 11, .t 14, .k (.b false)], none⟩,
      ⟨some 4, .move, [.t 15], none⟩] [1, 3, 4] [1])
    (.seq
     (.seq
      (.reg [] [⟨some 16, .faddr 0, [.t 1], none⟩,
        ⟨some 17, .load none false, [.t 16], none⟩] [1, 3, 4, 17] [1])
      (.block 0
       (.seq
        (.reg [] [⟨some 19, .bin .eq, [.t 17, .k (.i 0)], none⟩,
          ⟨some 18, .move, [.t 19], none⟩] [1, 3, 4, 17, 18] [1])
        (.cond (.t 18)
         (.seq
          (.reg [] [⟨some 3, .move, [.k (.i 0)], none⟩] [1, 3] [1])
          (.reg [] [⟨some 20, .faddr 1, [.t 1], none⟩,
            ⟨some 21, .load none false, [.t 20], none⟩,
            ⟨some 22, .bin .eq, [.t 21, .k (.i 0)], none⟩,
            ⟨some 23, .move, [.t 22], none⟩,
            ⟨some 24, .faddr 2, [.t 1], some (23, true)⟩,
            ⟨some 25, .load none false, [.t 24], some (23, true)⟩,
            ⟨some 26, .bin .eq, [.t 25, .k (.i 0)], some (23, true)⟩,
            ⟨some 27, .pick, [.t 23, .t 26, .k (.b false)], none⟩,
            ⟨some 4, .move, [.t 27], none⟩] [1, 3, 4] [1]))
         (.seq
          (.reg [] [⟨some 29, .bin .eq, [.t 17, .k (.i 3)], none⟩,
            ⟨some 28, .move, [.t 29], none⟩] [1, 3, 4, 17, 28] [1])
          (.cond (.t 28)
           (.reg [] [⟨some 30, .faddr 1, [.t 1], none⟩,
             ⟨some 31, .load none false, [.t 30], none⟩,
             ⟨some 32, .bin .eq, [.t 31, .k (.i 0)], none⟩,
             ⟨some 33, .move, [.t 32], none⟩,
             ⟨some 34, .faddr 2, [.t 1], some (33, true)⟩,
             ⟨some 35, .load none false, [.t 34], some (33, true)⟩,
             ⟨some 36, .bin .eq, [.t 35, .k (.i 0)], some (33, true)⟩,
             ⟨some 37, .pick, [.t 33, .t 36, .k (.b false)], none⟩,
             ⟨some 4, .move, [.t 37], none⟩] [1, 3, 4] [1])
           (.seq
            (.seq
             (.reg [] [⟨some 39, .bin .eq, [.t 17, .k (.i 4)], none⟩,
               ⟨some 38, .move, [.t 39], none⟩] [1, 3, 4, 17, 38] [1])
             (.cond (.t 38)
              .skip
              (.reg [] [⟨some 40, .bin .eq, [.t 17, .k (.i 5)], none⟩,
                ⟨some 38, .move, [.t 40], none⟩] [1, 3, 4, 17, 38] [1])))
            (.cond (.t 38)
             (.seq
              (.reg [] [⟨some 3, .move, [.k (.i 2)], none⟩] [1, 3] [1])
              (.reg [] [⟨some 41, .faddr 1, [.t 1], none⟩,
                ⟨some 42, .load none false, [.t 41], none⟩,
                ⟨some 43, .bin .eq, [.t 42, .k (.i 0)], none⟩,
                ⟨some 44, .move, [.t 43], none⟩,
                ⟨some 45, .faddr 2, [.t 1], some (44, true)⟩,
                ⟨some 46, .load none false, [.t 45], some (44, true)⟩,
                ⟨some 47, .bin .eq, [.t 46, .k (.i 0)], some (44, true)⟩,
                ⟨some 48, .pick, [.t 44, .t 47, .k (.b false)], none⟩,
                ⟨some 4, .move, [.t 48], none⟩] [1, 3, 4] [1]))
             (.seq
              (.reg [] [⟨some 50, .bin .eq, [.t 17, .k (.i 6)], none⟩,
                ⟨some 49, .move, [.t 50], none⟩] [1, 3, 4, 17, 49] [1])
              (.cond (.t 49)
               (.reg [] [⟨some 51, .move, [.t 4], none⟩,
                 ⟨some 52, .move, [.t 51], none⟩,
                 ⟨some 53, .faddr 2, [.t 1], some (52, true)⟩,
                 ⟨some 54, .load none false, [.t 53], some (52, true)⟩,
                 ⟨some 55, .bin .lt, [.t 54, .k (.i 3)], some (52, true)⟩,
                 ⟨some 56, .pick, [.t 52, .t 55, .k (.b false)], none⟩,
                 ⟨some 4, .move, [.t 56], none⟩] [1, 3, 4] [1])
               (.seq
                (.seq
                 (.reg [] [⟨some 58, .bin .eq, [.t 17, .k (.i 1)], none⟩,
                   ⟨some 57, .move, [.t 58], none⟩] [1, 3, 4, 17, 57] [1])
                 (.cond (.t 57)
                  .skip
                  (.seq
                   (.reg [] [⟨some 59, .bin .eq, [.t 17, .k (.i 2)], none⟩,
                     ⟨some 57, .move, [.t 59], none⟩] [1, 3, 4, 17, 57] [1])
                   (.cond (.t 57)
                    .skip
                    (.reg [] [⟨some 60, .bin .eq, [.t 17, .k (.i 7)], none⟩,
                      ⟨some 57, .move, [.t 60], none⟩] [1, 3, 4, 57] [1])))))
                (.cond (.t 57)
                 .skip
                 (.seq
                  (.reg [] [⟨some 2, .move, [.k (.i 0)], none⟩] [2] [])
                  .ret)))))))))))))
     (.seq
      (.seq
       (.reg [] [⟨some 61, .move, [.t 4], none⟩,
         ⟨some 62, .not, [.t 61], none⟩,
         ⟨some 63, .move, [.t 62], none⟩,
         ⟨some 64, .faddr 3, [.t 1], some (63, false)⟩,
         ⟨some 65, .load none false, [.t 64], some (63, false)⟩,
         ⟨some 66, .len, [.t 65], some (63, false)⟩,
         ⟨some 67, .move, [.t 3], some (63, false)⟩,
         ⟨some 68, .bin .ne, [.t 66, .t 67], some (63, false)⟩,
         ⟨some 69, .pick, [.t 63, .k (.b true), .t 68], none⟩] [1, 3, 69] [1])
       (.cond (.t 69)
        (.seq
         (.reg [] [⟨some 2, .move, [.k (.i 0)], none⟩] [2] [])
         .ret)
        .skip))
      (.seq
       (.reg [] [⟨some 5, .move, [.k (.i 1)], none⟩] [1, 3, 5] [1])
       (.seq
        (.seq
         (.reg [] [⟨some 6, .move, [.k (.i 0)], none⟩] [1, 3, 5, 6] [1])
         (.block 1
          (.loop [1, 3, 5, 6] [1] c155l0)))
        (.seq
         (.reg [] [⟨some 87, .move, [.t 5], none⟩,
           ⟨some 2, .move, [.t 87], none⟩] [2] [])
         .ret))))))))
def a155 : AF := ⟨c155, [.tmp 2]⟩
/-- spec.PiOk -/
def c127 : AC :=
 (.seq
  (.reg [] [⟨some 1, .box, [.t 0], none⟩,
    ⟨some 2, .move, [.k (.b false)], none⟩] [1] [1])
  (.seq
   (.reg [] [⟨some 3, .load (some 4) false, [.t 1], none⟩,
     ⟨some 4, .call [] false, [.f 155, .t 3], none⟩,
     ⟨some 5, .call [] false, [.f 60, .t 4, .k (.i 1), .k (.i 14)], none⟩,
     ⟨some 2, .move, [.t 5], none⟩] [2] [])
   .ret))
def a127 : AF := ⟨c127, [.tmp 2]⟩
/-- spec.l14Member -/
def c128 : AC :=
 (.seq
  (.reg [] [⟨some 1, .box, [.t 0], none⟩,
    ⟨some 2, .move, [.k (.b false)], none⟩] [1] [1])
  (.seq
   (.reg [] [⟨some 3, .faddr 0, [.t 1], none⟩,
     ⟨some 4, .load none false, [.t 3], none⟩,
     ⟨some 5, .bin .ne, [.t 4, .k (.i 0)], none⟩,
     ⟨some 6, .move, [.t 5], none⟩,
     ⟨some 7, .faddr 0, [.t 1], some (6, true)⟩,
     ⟨some 8, .load none false, [.t 7], some (6, true)⟩,
     ⟨some 9, .bin .ne, [.t 8, .k (.i 5)], some (6, true)⟩,
     ⟨some 10, .pick, [.t 6, .t 9, .k (.b false)], none⟩,
     ⟨some 11, .move, [.t 10], none⟩,
     ⟨some 12, .faddr 0, [.t 1], some (11, true)⟩,
     ⟨some 13, .load none false, [.t 12], some (11, true)⟩,
     ⟨some 14, .bin .ne, [.t 13, .k (.i 6)], some (11, true)⟩,
     ⟨some 15, .pick, [.t 11, .t 14, .k (.b false)], none⟩,
     ⟨some 16, .move, [.t 15], none⟩,
     ⟨some 17, .faddr 0, [.t 1], some (16, true)⟩,
     ⟨some 18, .load none false, [.t 17], some (16, true)⟩,
     ⟨some 19, .bin .eq, [.t 18, .k (.i 7)], some (16, true)⟩,
     ⟨some 20, .move, [.t 19], some (16, true)⟩,
     ⟨some 21, .faddr 1, [.t 1], some (20, true)⟩,
     ⟨some 22, .load none false, [.t 21], some (20, true)⟩,
     ⟨some 23, .faddr 2, [.t 1], some (20, true)⟩,
     ⟨some 24, .load none false, [.t 23], some (20, true)⟩,
     ⟨some 25, .bin .eq, [.t 22, .t 24], some (20, true)⟩,
     ⟨some 26, .pick, [.t 20, .t 25, .k (.b false)], some (16, true)⟩,
     ⟨some 27, .not, [.t 26], some (16, true)⟩,
     ⟨some 28, .pick, [.t 16, .t 27, .k (.b false)], none⟩,
     ⟨some 2, .move, [.t 28], none⟩] [2] [])
   .ret))
def a128 : AF := ⟨c128, [.tmp 2]⟩
/-- spec.l13Uses -/
def c156 : AC :=
 (.seq
  (.reg [] [⟨some 2, .box, [.t 0], none⟩,
    ⟨some 4, .move, [.k (.b false)], none⟩] [1, 2] [2])
  (.seq
   (.seq
    (.reg [] [⟨some 5, .faddr 0, [.t 2], none⟩,
      ⟨some 6, .load none false, [.t 5], none⟩] [1, 2, 6] [2])
    (.block 0
     (.seq
      (.seq
       (.reg [] [⟨some 8, .bin .eq, [.t 6, .k (.i 1)], none⟩,
         ⟨some 7, .move, [.t 8], none⟩] [1, 2, 6, 7] [2])
       (.cond (.t 7)
        .skip
        (.reg [] [⟨some 9, .bin .eq, [.t 6, .k (.i 7)], none⟩,
          ⟨some 7, .move, [.t 9], none⟩] [1, 2, 6, 7] [2])))
      (.cond (.t 7)
       (.seq
        (.reg [] [⟨some 10, .faddr 1, [.t 2], none⟩,
          ⟨some 11, .load none false, [.t 10], none⟩,
          ⟨some 12, .move, [.t 1], none⟩,
          ⟨some 13, .bin .eq, [.t 11, .t 12], none⟩,
          ⟨some 14, .move, [.t 13], none⟩,
          ⟨some 15, .faddr 2, [.t 2], some (14, false)⟩,
          ⟨some 16, .load none false, [.t 15], some (14, false)⟩,
          ⟨some 17, .move, [.t 1], some (14, false)⟩,
          ⟨some 18, .bin .eq, [.t 16, .t 17], some (14, false)⟩,
          ⟨some 19, .pick, [.t 14, .k (.b true), .t 18], none⟩,
          ⟨some 4, .move, [.t 19], none⟩] [4] [])
        .ret)
       (.seq
        (.reg [] [⟨some 21, .bin .eq, [.t 6, .k (.i 2)], none⟩,
          ⟨some 20, .move, [.t 21], none⟩] [1, 2, 20] [2])
        (.cond (.t 20)
         (.seq
          (.reg [] [⟨some 22, .faddr 1, [.t 2], none⟩,
            ⟨some 23, .load none false, [.t 22], none⟩,
            ⟨some 24, .move, [.t 1], none⟩,
            ⟨some 25, .bin .eq, [.t 23, .t 24], none⟩,
            ⟨some 4, .move, [.t 25], none⟩] [4] [])
          .ret)
         .skip))))))
   (.seq
    (.reg [] [⟨some 4, .move, [.k (.b false)], none⟩] [4] [])
    .ret)))
def a156 : AF := ⟨c156, [.tmp 4]⟩
/-- spec.l13Binds -/
def c157 : AC :=
 (.seq
  (.reg [] [⟨some 1, .box, [.t 0], none⟩,
    ⟨some 2, .move, [.k (.i 0)], none⟩] [1] [1])
  (.seq
   (.seq
    (.reg [] [⟨some 3, .faddr 0, [.t 1], none⟩,
      ⟨some 4, .load none false, [.t 3], none⟩] [1, 4] [1])
    (.block 0
     (.seq
      (.reg [] [⟨some 6, .bin .eq, [.t 4, .k (.i 2)], none⟩,
        ⟨some 5, .move, [.t 6], none⟩] [1, 4, 5] [1])
      (.cond (.t 5)
       (.seq
        (.reg [] [⟨some 7, .faddr 2, [.t 1], none⟩,
          ⟨some 8, .load none false, [.t 7], none⟩,
          ⟨some 2, .move, [.t 8], none⟩] [2] [])
        .ret)
       (.seq
        (.reg [] [⟨some 10, .bin .eq, [.t 4, .k (.i 6)], none⟩,
          ⟨some 9, .move, [.t 10], none⟩] [1, 9] [1])
        (.cond (.t 9)
         (.seq
          (.reg [] [⟨some 11, .faddr 1, [.t 1], none⟩,
            ⟨some 12, .load none false, [.t 11], none⟩,
            ⟨some 2, .move, [.t 12], none⟩] [2] [])
          .ret)
         .skip))))))
   (.seq
    (.reg [] [⟨some 2, .move, [.k (.i (-1))], none⟩] [2] [])
    .ret)))
def a157 : AF := ⟨c157, [.tmp 2]⟩
def b129l0 : AC :=
 (.seq
  (.seq
   (.reg [] [⟨some 9, .move, [.t 5], none⟩,
     ⟨some 10, .faddr 3, [.t 2], none⟩,
     ⟨some 11, .load none false, [.t 10], none⟩,
     ⟨some 12, .len, [.t 11], none⟩,
     ⟨some 13, .bin .lt, [.t 9, .t 12], none⟩,
     ⟨some 14, .move, [.t 13], none⟩,
     ⟨some 15, .load (some 4) false, [.t 2], some (14, true)⟩,
     ⟨some 16, .call [] false, [.f 157, .t 15], some (14, true)⟩,
     ⟨some 17, .move, [.t 1], some (14, true)⟩,
     ⟨some 18, .bin .ne, [.t 16, .t 17], some (14, true)⟩,
     ⟨some 19, .pick, [.t 14, .t 18, .k (.b false)], none⟩] [1, 2, 5, 19] [2])
   (.cond (.t 19)
    .skip
    (.exit 0)))
  (.seq
   (.block 1
    (.seq
     (.reg [] [⟨some 22, .faddr 3, [.t 2], none⟩,
       ⟨some 23, .load none false, [.t 22], none⟩,
       ⟨some 24, .move, [.t 5], none⟩,
       ⟨some 25, .iaddr 4, [.t 23, .t 24], none⟩,
       ⟨some 26, .load (some 4) false, [.t 25], none⟩,
       ⟨some 27, .move, [.t 1], none⟩,
       ⟨some 28, .call [] false, [.f 129, .t 26, .t 27], none⟩] [1, 2, 5, 28] [2])
     (.cond (.t 28)
      (.seq
       (.reg [] [⟨some 4, .move, [.k (.b true)], none⟩] [4] [])
       .ret)
      .skip)))
   (.reg [] [⟨some 20, .move, [.t 5], none⟩,
     ⟨some 21, .bin .add, [.t 20, .k (.i 1)], none⟩,
     ⟨some 5, .move, [.t 21], none⟩] [1, 2, 5] [2])))
def c129l0 : AC := b129l0
theorem r129l0 (call lp s) : run call lp c129l0 s = run call lp b129l0 s := rfl
/-- spec.l13Free -/
def c129 : AC :=
 (.seq
  (.reg [] [⟨some 2, .box, [.t 0], none⟩,
    ⟨some 4, .move, [.k (.b false)], none⟩] [1, 2] [2])
  (.seq
   (.seq
    (.reg [] [⟨some 6, .load (some 4) false, [.t 2], none⟩,
      ⟨some 7, .move, [.t 1], none⟩,
      ⟨some 8, .call [] false, [.f 156, .t 6, .t 7], none⟩] [1, 2, 8] [2])
    (.cond (.t 8)
     (.seq
      (.reg [] [⟨some 4, .move, [.k (.b true)], none⟩] [4] [])
      .ret)
     .skip))
   (.seq
    (.seq
     (.reg [] [⟨some 5, .move, [.k (.i 0)], none⟩] [1, 2, 5] [2])
     (.block 0
      (.loop [1, 2, 5] [2] c129l0)))
    (.seq
     (.reg [] [⟨some 4, .move, [.k (.b false)], none⟩] [4] [])
     .ret))))
def a129 : AF := ⟨c129, [.tmp 4]⟩
def b72l0 : AC :=
 (.seq
  (.seq
   (.reg [] [⟨some 10, .move, [.t 3], none⟩,
     ⟨some 11, .faddr 0, [.t 1], none⟩,
     ⟨some 12, .load none false, [.t 11], none⟩,
     ⟨some 13, .len, [.t 12], none⟩,
     ⟨some 14, .bin .lt, [.t 10, .t 13], none⟩] [1, 3, 14] [1])
   (.cond (.t 14)
    .skip
    (.exit 0)))
  (.seq
   (.block 1
    (.seq
     (.reg [] [⟨some 17, .faddr 0, [.t 1], none⟩,
       ⟨some 18, .load none false, [.t 17], none⟩,
       ⟨some 19, .move, [.t 3], none⟩,
       ⟨some 20, .iaddr 1, [.t 18, .t 19], none⟩,
       ⟨some 21, .load none false, [.t 20], none⟩,
       ⟨some 22, .call [] false, [.f 60, .t 21, .k (.i 0), .k (.i 2)], none⟩,
       ⟨some 23, .not, [.t 22], none⟩] [1, 3, 23] [1])
     (.cond (.t 23)
      (.seq
       (.reg [] [⟨some 2, .move, [.k (.b false)], none⟩] [2] [])
       .ret)
      .skip)))
   (.reg [] [⟨some 15, .move, [.t 3], none⟩,
     ⟨some 16, .bin .add, [.t 15, .k (.i 1)], none⟩,
     ⟨some 3, .move, [.t 16], none⟩] [1, 3] [1])))
def c72l0 : AC := b72l0
theorem r72l0 (call lp s) : run call lp c72l0 s = run call lp b72l0 s := rfl
def b72l1 : AC :=
 (.seq
  (.seq
   (.reg [] [⟨some 51, .move, [.t 5], none⟩,
     ⟨some 52, .bin .lt, [.t 51, .k (.i 30)], none⟩] [1, 4, 5, 52] [1])
   (.cond (.t 52)
    .skip
    (.exit 4)))
  (.seq
   (.block 5
    (.seq
     (.reg [] [⟨some 55, .faddr 1, [.t 1], none⟩,
       ⟨some 56, .load none false, [.t 55], none⟩,
       ⟨some 57, .move, [.t 4], none⟩,
       ⟨some 58, .iaddr 4, [.t 56, .t 57], none⟩,
       ⟨some 59, .load (some 4) false, [.t 58], none⟩,
       ⟨some 60, .move, [.t 5], none⟩,
       ⟨some 61, .call [] false, [.f 129, .t 59, .t 60], none⟩] [1, 4, 5, 61] [1])
     (.cond (.t 61)
      (.seq
       (.reg [] [⟨some 2, .move, [.k (.b false)], none⟩] [2] [])
       .ret)
      .skip)))
   (.reg [] [⟨some 53, .move, [.t 5], none⟩,
     ⟨some 54, .bin .add, [.t 53, .k (.i 1)], none⟩,
     ⟨some 5, .move, [.t 54], none⟩] [1, 4, 5] [1])))
def c72l1 : AC := b72l1
theorem r72l1 (call lp s) : run call lp c72l1 s = run call lp b72l1 s := rfl
def b72l2 : AC :=
 (.seq
  (.seq
   (.reg [] [⟨some 24, .move, [.t 4], none⟩,
     ⟨some 25, .faddr 1, [.t 1], none⟩,
     ⟨some 26, .load none false, [.t 25], none⟩,
     ⟨some 27, .len, [.t 26], none⟩,
     ⟨some 28, .bin .lt, [.t 24, .t 27], none⟩] [1, 4, 28] [1])
   (.cond (.t 28)
    .skip
    (.exit 2)))
  (.seq
   (.block 3
    (.seq
     (.seq
      (.reg [] [⟨some 31, .faddr 1, [.t 1], none⟩,
        ⟨some 32, .load none false, [.t 31], none⟩,
        ⟨some 33, .move, [.t 4], none⟩,
        ⟨some 34, .iaddr 4, [.t 32, .t 33], none⟩,
        ⟨some 35, .load (some 4) false, [.t 34], none⟩,
        ⟨some 36, .call [] false, [.f 127, .t 35], none⟩,
        ⟨some 37, .not, [.t 36], none⟩,
        ⟨some 38, .move, [.t 37], none⟩,
        ⟨some 39, .faddr 1, [.t 1], some (38, false)⟩,
        ⟨some 40, .load none false, [.t 39], some (38, false)⟩,
        ⟨some 41, .move, [.t 4], some (38, false)⟩,
        ⟨some 42, .iaddr 4, [.t 40, .t 41], some (38, false)⟩,
        ⟨some 43, .load (some 4) false, [.t 42], some (38, false)⟩,
        ⟨some 44, .call [] false, [.f 128, .t 43], some (38, false)⟩,
        ⟨some 45, .not, [.t 44], some (38, false)⟩,
        ⟨some 46, .pick, [.t 38, .k (.b true), .t 45], none⟩] [1, 4, 46] [1])
      (.cond (.t 46)
       (.seq
        (.reg [] [⟨some 2, .move, [.k (.b false)], none⟩] [2] [])
        .ret)
       .skip))
     (.seq
      (.reg [] [⟨some 47, .faddr 0, [.t 1], none⟩,
        ⟨some 48, .load none false, [.t 47], none⟩,
        ⟨some 49, .len, [.t 48], none⟩,
        ⟨some 50, .bin .add, [.k (.i 6), .t 49], none⟩,
        ⟨some 5, .move, [.t 50], none⟩] [1, 4, 5] [1])
      (.block 4
       (.loop [1, 4, 5] [1] c72l1)))))
   (.reg [] [⟨some 29, .move, [.t 4], none⟩,
     ⟨some 30, .bin .add, [.t 29, .k (.i 1)], none⟩,
     ⟨some 4, .move, [.t 30], none⟩] [1, 4] [1])))
def c72l2 : AC := b72l2
theorem r72l2 (call lp s) : run call lp c72l2 s = run call lp b72l2 s := rfl
/-- spec.PoolOk -/
def c72 : AC :=
 (.seq
  (.reg [] [⟨some 1, .box, [.t 0], none⟩,
    ⟨some 2, .move, [.k (.b false)], none⟩] [1] [1])
  (.seq
   (.seq
    (.reg [] [⟨some 6, .faddr 0, [.t 1], none⟩,
      ⟨some 7, .load none false, [.t 6], none⟩,
      ⟨some 8, .len, [.t 7], none⟩,
      ⟨some 9, .bin .gt, [.t 8, .k (.i 4)], none⟩] [1, 9] [1])
    (.cond (.t 9)
     (.seq
      (.reg [] [⟨some 2, .move, [.k (.b false)], none⟩] [2] [])
      .ret)
     .skip))
   (.seq
    (.seq
     (.reg [] [⟨some 3, .move, [.k (.i 0)], none⟩] [1, 3] [1])
     (.block 0
      (.loop [1, 3] [1] c72l0)))
    (.seq
     (.seq
      (.reg [] [⟨some 4, .move, [.k (.i 0)], none⟩] [1, 4] [1])
      (.block 2
       (.loop [1, 4] [1] c72l2)))
     (.seq
      (.reg [] [⟨some 2, .move, [.k (.b true)], none⟩] [2] [])
      .ret)))))
def a72 : AF := ⟨c72, [.tmp 2]⟩
def b73l0 : AC :=
 (.seq
  (.seq
   (.reg [] [⟨some 6, .move, [.t 5], none⟩,
     ⟨some 7, .move, [.t 0], none⟩,
     ⟨some 8, .len, [.t 7], none⟩,
     ⟨some 9, .bin .lt, [.t 6, .t 8], none⟩] [0, 1, 5, 9] [])
   (.cond (.t 9)
    .skip
    (.exit 0)))
  (.seq
   (.block 1
    (.seq
     (.reg [] [⟨some 12, .move, [.t 0], none⟩,
       ⟨some 13, .move, [.t 5], none⟩,
       ⟨some 14, .iaddr 1, [.t 12, .t 13], none⟩,
       ⟨some 15, .load none false, [.t 14], none⟩,
       ⟨some 16, .call [] false, [.f 60, .t 15, .k (.i 0), .k (.i 2)], none⟩,
       ⟨some 17, .not, [.t 16], none⟩] [0, 1, 5, 17] [])
     (.cond (.t 17)
      (.seq
       (.reg [] [⟨some 4, .move, [.k (.b false)], none⟩] [4] [])
       .ret)
      .skip)))
   (.reg [] [⟨some 10, .move, [.t 5], none⟩,
     ⟨some 11, .bin .add, [.t 10, .k (.i 1)], none⟩,
     ⟨some 5, .move, [.t 11], none⟩] [0, 1, 5] [])))
def c73l0 : AC := b73l0
theorem r73l0 (call lp s) : run call lp c73l0 s = run call lp b73l0 s := rfl
/-- spec.l16Numbers -/
def c73 : AC :=
 (.seq
  (.reg [] [⟨some 4, .move, [.k (.b false)], none⟩] [0, 1] [])
  (.seq
   (.seq
    (.reg [] [⟨some 5, .move, [.k (.i 0)], none⟩] [0, 1, 5] [])
    (.block 0
     (.loop [0, 1, 5] [] c73l0)))
   (.seq
    (.reg [] [⟨some 18, .move, [.t 0], none⟩,
      ⟨some 19, .len, [.t 18], none⟩,
      ⟨some 20, .move, [.t 1], none⟩,
      ⟨some 21, .bin .eq, [.t 19, .t 20], none⟩,
      ⟨some 4, .move, [.t 21], none⟩] [4] [])
    .ret)))
def a73 : AF := ⟨c73, [.tmp 4]⟩
def b74l0 : AC :=
 (.seq
  (.seq
   (.reg [] [⟨some 65, .move, [.t 8], none⟩,
     ⟨some 66, .faddr 3, [.t 3], none⟩,
     ⟨some 67, .load none false, [.t 66], none⟩,
     ⟨some 68, .len, [.t 67], none⟩,
     ⟨some 69, .bin .lt, [.t 65, .t 68], none⟩] [2, 3, 7, 8, 69] [3, 9, 11])
   (.cond (.t 69)
    .skip
    (.exit 1)))
  (.seq
   (.block 2
    (.seq
     (.reg [] [⟨some 72, .faddr 3, [.t 3], none⟩,
       ⟨some 73, .load none false, [.t 72], none⟩,
       ⟨some 74, .move, [.t 8], none⟩,
       ⟨some 75, .iaddr 4, [.t 73, .t 74], none⟩,
       ⟨some 76, .load (some 4) false, [.t 75], none⟩,
       ⟨some 77, .move, [.t 7], none⟩,
       ⟨some 78, .move, [.t 2], none⟩,
       ⟨some 79, .call [] false, [.f 74, .t 76, .t 77, .t 78], none⟩,
       ⟨some 80, .not, [.t 79], none⟩] [2, 3, 7, 8, 80] [3, 9, 11])
     (.cond (.t 80)
      (.seq
       (.reg [] [⟨some 6, .move, [.k (.b false)], none⟩] [6] [])
       .ret)
      .skip)))
   (.reg [] [⟨some 70, .move, [.t 8], none⟩,
     ⟨some 71, .bin .add, [.t 70, .k (.i 1)], none⟩,
     ⟨some 8, .move, [.t 71], none⟩] [2, 3, 7, 8] [3, 9, 11])))
def c74l0 : AC := b74l0
theorem r74l0 (call lp s) : run call lp c74l0 s = run call lp b74l0 s := rfl
/-- spec.l16Sorted -/
def c74 : AC :=
 (.seq
  (.reg [] [⟨some 3, .box, [.t 0], none⟩,
    ⟨some 6, .move, [.k (.b false)], none⟩] [1, 2, 3] [3])
  (.seq
   (.reg [] [⟨some 9, .bslice 1 true, [], none⟩,
     ⟨some 10, .move, [.t 1], none⟩,
     ⟨some 11, .append 1 true, [.t 9, .t 10], none⟩,
     ⟨some 7, .move, [.t 11], none⟩] [1, 2, 3, 7] [3, 9, 11])
   (.seq
    (.seq
     (.reg [] [⟨some 12, .faddr 0, [.t 3], none⟩,
       ⟨some 13, .load none false, [.t 12], none⟩] [1, 2, 3, 7, 13] [3, 9, 11])
     (.block 0
      (.seq
       (.reg [] [⟨some 15, .bin .eq, [.t 13, .k (.i 1)], none⟩,
         ⟨some 14, .move, [.t 15], none⟩] [1, 2, 3, 7, 13, 14] [3, 9, 11])
       (.cond (.t 14)
        (.seq
         (.reg [0, 1, 2, 3, 4, 5, 6, 7, 8, 9, 10, 11, 12, 13] [⟨some 16, .move, [.t 1], none⟩,
           ⟨some 17, .faddr 2, [.t 3], none⟩,
           ⟨some 18, .load none false, [.t 17], none⟩,
           ⟨some 19, .iaddr 1, [.t 16, .t 18], none⟩,
           ⟨some 20, .load none false, [.t 19], none⟩,
           ⟨some 21, .move, [.t 2], none⟩,
           ⟨some 22, .move, [.t 1], none⟩,
           ⟨some 23, .faddr 1, [.t 3], none⟩,
           ⟨some 24, .load none false, [.t 23], none⟩,
           ⟨some 25, .iaddr 1, [.t 22, .t 24], none⟩,
           ⟨some 26, .load none false, [.t 25], none⟩,
           ⟨some 27, .iaddr 1, [.t 21, .t 26], none⟩,
           ⟨some 28, .load none false, [.t 27], none⟩,
           ⟨some 29, .bin .ne, [.t 20, .t 28], none⟩] [2, 3, 7, 29] [3, 9, 11])
         (.cond (.t 29)
          (.seq
           (.reg [] [⟨some 6, .move, [.k (.b false)], none⟩] [6] [])
           .ret)
          .skip))
        (.seq
         (.reg [] [⟨some 31, .bin .eq, [.t 13, .k (.i 2)], none⟩,
           ⟨some 30, .move, [.t 31], none⟩] [1, 2, 3, 7, 13, 30] [3, 9, 11])
         (.cond (.t 30)
          (.reg [0, 1, 2, 3, 4, 5, 6, 7, 8, 9, 10, 11, 12] [⟨some 32, .move, [.t 7], none⟩,
            ⟨some 33, .faddr 2, [.t 3], none⟩,
            ⟨some 34, .load none false, [.t 33], none⟩,
            ⟨some 35, .move, [.t 2], none⟩,
            ⟨some 36, .move, [.t 1], none⟩,
            ⟨some 37, .faddr 1, [.t 3], none⟩,
            ⟨some 38, .load none false, [.t 37], none⟩,
            ⟨some 39, .iaddr 1, [.t 36, .t 38], none⟩,
            ⟨some 40, .load none false, [.t 39], none⟩,
            ⟨some 41, .iaddr 1, [.t 35, .t 40], none⟩,
            ⟨some 42, .load none false, [.t 41], none⟩,
            ⟨some 43, .iaddr 1, [.t 32, .t 34], none⟩,
            ⟨none, .store 1 true, [.t 43, .t 42], none⟩] [2, 3, 7] [3, 9, 11])
          (.seq
           (.reg [] [⟨some 45, .bin .eq, [.t 13, .k (.i 6)], none⟩,
             ⟨some 44, .move, [.t 45], none⟩] [1, 2, 3, 7, 13, 44] [3, 9, 11])
           (.cond (.t 44)
            (.reg [] [⟨some 46, .move, [.t 7], none⟩,
              ⟨some 47, .faddr 1, [.t 3], none⟩,
              ⟨some 48, .load none false, [.t 47], none⟩,
              ⟨some 49, .faddr 2, [.t 3], none⟩,
              ⟨some 50, .load none false, [.t 49], none⟩,
              ⟨some 51, .iaddr 1, [.t 46, .t 48], none⟩,
              ⟨none, .store 1 true, [.t 51, .t 50], none⟩] [2, 3, 7] [3, 9, 11])
            (.seq
             (.reg [] [⟨some 53, .bin .eq, [.t 13, .k (.i 7)], none⟩,
               ⟨some 52, .move, [.t 53], none⟩] [1, 2, 3, 7, 52] [3, 9, 11])
             (.cond (.t 52)
              (.seq
               (.reg [0, 1, 2, 3, 4, 5, 6, 7, 8, 9, 10] [⟨some 54, .move, [.t 1], none⟩,
                 ⟨some 55, .faddr 1, [.t 3], none⟩,
                 ⟨some 56, .load none false, [.t 55], none⟩,
                 ⟨some 57, .iaddr 1, [.t 54, .t 56], none⟩,
                 ⟨some 58, .load none false, [.t 57], none⟩,
                 ⟨some 59, .move, [.t 1], none⟩,
                 ⟨some 60, .faddr 2, [.t 3], none⟩,
                 ⟨some 61, .load none false, [.t 60], none⟩,
                 ⟨some 62, .iaddr 1, [.t 59, .t 61], none⟩,
                 ⟨some 63, .load none false, [.t 62], none⟩,
                 ⟨some 64, .bin .ne, [.t 58, .t 63], none⟩] [2, 3, 7, 64] [3, 9, 11])
               (.cond (.t 64)
                (.seq
                 (.reg [] [⟨some 6, .move, [.k (.b false)], none⟩] [6] [])
                 .ret)
                .skip))
              .skip))))))))))
    (.seq
     (.seq
      (.reg [] [⟨some 8, .move, [.k (.i 0)], none⟩] [2, 3, 7, 8] [3, 9, 11])
      (.block 1
       (.loop [2, 3, 7, 8] [3, 9, 11] c74l0)))
     (.seq
      (.reg [] [⟨some 6, .move, [.k (.b true)], none⟩] [6] [])
      .ret)))))
def a74 : AF := ⟨c74, [.tmp 6]⟩
def b27l0 : AC :=
 (.seq
  (.seq
   (.reg [] [⟨some 26, .move, [.t 8], none⟩,
     ⟨some 27, .faddr 0, [.t 3], none⟩,
     ⟨some 28, .load none false, [.t 27], none⟩,
     ⟨some 29, .len, [.t 28], none⟩,
     ⟨some 30, .bin .lt, [.t 26, .t 29], none⟩] [2, 3, 7, 8, 30] [3, 23, 25])
   (.cond (.t 30)
    .skip
    (.exit 0)))
  (.seq
   (.block 1
    (.reg [] [⟨some 33, .move, [.t 7], none⟩,
      ⟨some 34, .move, [.t 8], none⟩,
      ⟨some 35, .bin .add, [.k (.i 6), .t 34], none⟩,
      ⟨some 36, .faddr 0, [.t 3], none⟩,
      ⟨some 37, .load none false, [.t 36], none⟩,
      ⟨some 38, .move, [.t 8], none⟩,
      ⟨some 39, .iaddr 1, [.t 37, .t 38], none⟩,
      ⟨some 40, .load none false, [.t 39], none⟩,
      ⟨some 41, .iaddr 1, [.t 33, .t 35], none⟩,
      ⟨none, .store 1 true, [.t 41, .t 40], none⟩] [2, 3, 7, 8] [3, 23, 25]))
   (.reg [] [⟨some 31, .move, [.t 8], none⟩,
     ⟨some 32, .bin .add, [.t 31, .k (.i 1)], none⟩,
     ⟨some 8, .move, [.t 32], none⟩] [2, 3, 7, 8] [3, 23, 25])))
def c27l0 : AC := b27l0
theorem r27l0 (call lp s) : run call lp c27l0 s = run call lp b27l0 s := rfl
def b27l1 : AC :=
 (.seq
  (.seq
   (.reg [] [⟨some 42, .move, [.t 9], none⟩,
     ⟨some 43, .faddr 1, [.t 3], none⟩,
     ⟨some 44, .load none false, [.t 43], none⟩,
     ⟨some 45, .len, [.t 44], none⟩,
     ⟨some 46, .bin .lt, [.t 42, .t 45], none⟩] [2, 3, 7, 9, 46] [3, 23, 25])
   (.cond (.t 46)
    .skip
    (.exit 2)))
  (.seq
   (.block 3
    (.seq
     (.reg [] [⟨some 49, .faddr 1, [.t 3], none⟩,
       ⟨some 50, .load none false, [.t 49], none⟩,
       ⟨some 51, .move, [.t 9], none⟩,
       ⟨some 52, .iaddr 4, [.t 50, .t 51], none⟩,
       ⟨some 53, .load (some 4) false, [.t 52], none⟩,
       ⟨some 54, .move, [.t 7], none⟩,
       ⟨some 55, .move, [.t 2], none⟩,
       ⟨some 56, .call [] false, [.f 74, .t 53, .t 54, .t 55], none⟩,
       ⟨some 57, .not, [.t 56], none⟩] [2, 3, 7, 9, 57] [3, 23, 25])
     (.cond (.t 57)
      (.seq
       (.reg [] [⟨some 6, .move, [.k (.b false)], none⟩] [6] [])
       .ret)
      .skip)))
   (.reg [] [⟨some 47, .move, [.t 9], none⟩,
     ⟨some 48, .bin .add, [.t 47, .k (.i 1)], none⟩,
     ⟨some 9, .move, [.t 48], none⟩] [2, 3, 7, 9] [3, 23, 25])))
def c27l1 : AC := b27l1
theorem r27l1 (call lp s) : run call lp c27l1 s = run call lp b27l1 s := rfl
/-- spec.PoolSorted -/
def c27 : AC :=
 (.seq
  (.reg [] [⟨some 3, .box, [.t 0], none⟩,
    ⟨some 6, .move, [.k (.b false)], none⟩] [1, 2, 3] [3])
  (.seq
   (.seq
    (.reg [] [⟨some 10, .load (some 2) false, [.t 3], none⟩,
      ⟨some 11, .call [] false, [.f 72, .t 10], none⟩,
      ⟨some 12, .not, [.t 11], none⟩,
      ⟨some 13, .move, [.t 12], none⟩,
      ⟨some 14, .move, [.t 1], some (13, false)⟩,
      ⟨some 15, .call [] false, [.f 73, .t 14, .k (.i 30)], some (13, false)⟩,
      ⟨some 16, .not, [.t 15], some (13, false)⟩,
      ⟨some 17, .pick, [.t 13, .k (.b true), .t 16], none⟩,
      ⟨some 18, .move, [.t 17], none⟩,
      ⟨some 19, .move, [.t 2], some (18, false)⟩,
      ⟨some 20, .call [] false, [.f 73, .t 19, .k (.i 3)], some (18, false)⟩,
      ⟨some 21, .not, [.t 20], some (18, false)⟩,
      ⟨some 22, .pick, [.t 18, .k (.b true), .t 21], none⟩] [1, 2, 3, 22] [3])
    (.cond (.t 22)
     (.seq
      (.reg [] [⟨some 6, .move, [.k (.b false)], none⟩] [6] [])
      .ret)
     .skip))
   (.seq
    (.reg [] [⟨some 23, .bslice 1 true, [], none⟩,
      ⟨some 24, .move, [.t 1], none⟩,
      ⟨some 25, .append 1 true, [.t 23, .t 24], none⟩,
      ⟨some 7, .move, [.t 25], none⟩] [2, 3, 7] [3, 23, 25])
    (.seq
     (.seq
      (.reg [] [⟨some 8, .move, [.k (.i 0)], none⟩] [2, 3, 7, 8] [3, 23, 25])
      (.block 0
       (.loop [2, 3, 7, 8] [3, 23, 25] c27l0)))
     (.seq
      (.seq
       (.reg [] [⟨some 9, .move, [.k (.i 0)], none⟩] [2, 3, 7, 9] [3, 23, 25])
       (.block 2
        (.loop [2, 3, 7, 9] [3, 23, 25] c27l1)))
      (.seq
       (.reg [] [⟨some 6, .move, [.k (.b true)], none⟩] [6] [])
       .ret))))))
def a27 : AF := ⟨c27, [.tmp 6]⟩
def b172l0 : AC :=
 (.seq
  (.reg [] [⟨some 12, .bin .lt, [.t 11, .t 10], none⟩] [1, 5, 9, 10, 11, 12] [])
  (.seq
   (.cond (.t 12)
    .skip
    (.exit 0))
   (.seq
    (.block 1
     (.seq
      (.reg [] [⟨some 13, .iaddr 4, [.t 9, .t 11], none⟩,
        ⟨some 14, .load (some 4) false, [.t 13], none⟩,
        ⟨some 7, .alloc [.i 0, .i 0, .i 0, .nils], [], none⟩,
        ⟨none, .store 4 true, [.t 7, .t 14], none⟩] [1, 5, 7, 9, 10, 11] [7])
      (.seq
       (.seq
        (.reg [] [⟨some 15, .move, [.t 5], none⟩,
          ⟨some 16, .move, [.t 1], none⟩,
          ⟨some 17, .bin .gt, [.t 15, .t 16], none⟩] [1, 5, 7, 9, 10, 11, 17] [7])
        (.cond (.t 17)
         (.seq
          (.reg [] [⟨some 18, .move, [.t 5], none⟩,
            ⟨some 4, .move, [.t 18], none⟩] [4] [])
          .ret)
         .skip))
       (.reg [] [⟨some 19, .move, [.t 5], none⟩,
         ⟨some 20, .load (some 4) false, [.t 7], none⟩,
         ⟨some 21, .move, [.t 1], none⟩,
         ⟨some 22, .move, [.t 5], none⟩,
         ⟨some 23, .bin .sub, [.t 21, .t 22], none⟩,
         ⟨some 24, .call [] false, [.f 172, .t 20, .t 23], none⟩,
         ⟨some 25, .bin .add, [.t 19, .t 24], none⟩,
         ⟨some 5, .move, [.t 25], none⟩] [1, 5, 9, 10, 11] []))))
    (.reg [] [⟨some 26, .bin .add, [.t 11, .k (.i 1)], none⟩,
      ⟨some 11, .move, [.t 26], none⟩] [1, 5, 9, 10, 11] []))))
def c172l0 : AC := b172l0
theorem r172l0 (call lp s) : run call lp c172l0 s = run call lp b172l0 s := rfl
/-- impl.piNodes -/
def c172 : AC :=
 (.seq
  (.reg [] [⟨some 2, .box, [.t 0], none⟩,
    ⟨some 4, .move, [.k (.i 0)], none⟩] [1, 2] [2])
  (.seq
   (.reg [] [⟨some 5, .move, [.k (.i 1)], none⟩] [1, 2, 5] [2])
   (.seq
    (.seq
     (.reg [] [⟨some 8, .faddr 3, [.t 2], none⟩,
       ⟨some 9, .load none false, [.t 8], none⟩,
       ⟨some 10, .len, [.t 9], none⟩,
       ⟨some 11, .move, [.k (.i 0)], none⟩] [1, 5, 9, 10, 11] [])
     (.block 0
      (.loop [1, 5, 9, 10, 11] [] c172l0)))
    (.seq
     (.reg [] [⟨some 27, .move, [.t 5], none⟩,
       ⟨some 4, .move, [.t 27], none⟩] [4] [])
     .ret))))
def a172 : AF := ⟨c172, [.tmp 4]⟩
/-- impl.piName -/
def c199 : AC :=
 (.seq
  (.reg [] [⟨some 2, .move, [.k (.b false)], none⟩] [0] [])
  (.seq
   (.reg [] [⟨some 3, .move, [.t 0], none⟩,
     ⟨some 4, .bin .ge, [.t 3, .k (.i 0)], none⟩,
     ⟨some 5, .move, [.t 4], none⟩,
     ⟨some 6, .move, [.t 0], some (5, true)⟩,
     ⟨some 7, .bin .lt, [.t 6, .k (.i 30)], some (5, true)⟩,
     ⟨some 8, .pick, [.t 5, .t 7, .k (.b false)], none⟩,
     ⟨some 2, .move, [.t 8], none⟩] [2] [])
   .ret))
def a199 : AF := ⟨c199, [.tmp 2]⟩
def b135l0 : AC :=
 (.seq
  (.reg [] [⟨some 9, .bin .lt, [.t 8, .t 7], none⟩] [0, 1, 7, 8, 9] [])
  (.seq
   (.cond (.t 9)
    .skip
    (.exit 0))
   (.seq
    (.block 1
     (.seq
      (.reg [] [⟨some 10, .move, [.t 8], none⟩,
        ⟨some 5, .move, [.t 10], none⟩] [0, 1, 5, 7, 8] [])
      (.seq
       (.reg [] [⟨some 11, .move, [.t 1], none⟩,
         ⟨some 12, .move, [.t 0], none⟩,
         ⟨some 13, .move, [.t 5], none⟩,
         ⟨some 14, .iaddr 4, [.t 12, .t 13], none⟩,
         ⟨some 15, .load (some 4) false, [.t 14], none⟩,
         ⟨some 16, .call [] false, [.t 11, .t 15], none⟩] [0, 1, 5, 7, 8, 16] [])
       (.cond (.t 16)
        (.seq
         (.reg [] [⟨some 17, .move, [.t 5], none⟩,
           ⟨some 4, .move, [.t 17], none⟩] [4] [])
         .ret)
        .skip))))
    (.reg [] [⟨some 18, .bin .add, [.t 8, .k (.i 1)], none⟩,
      ⟨some 8, .move, [.t 18], none⟩] [0, 1, 7, 8] []))))
def c135l0 : AC := b135l0
theorem r135l0 (call lp s) : run call lp c135l0 s = run call lp b135l0 s := rfl
/-- impl.Pi] -/
def c135 : AC :=
 (.seq
  (.reg [] [⟨some 4, .move, [.k (.i 0)], none⟩] [0, 1] [])
  (.seq
   (.seq
    (.reg [] [⟨some 6, .move, [.t 0], none⟩,
      ⟨some 7, .len, [.t 6], none⟩,
      ⟨some 8, .move, [.k (.i 0)], none⟩] [0, 1, 7, 8] [])
    (.block 0
     (.loop [0, 1, 7, 8] [] c135l0)))
   (.seq
    (.reg [] [⟨some 4, .move, [.k (.i (-1))], none⟩] [4] [])
    .ret)))
def a135 : AF := ⟨c135, [.tmp 4]⟩
/-- impl.Pi] -/
def c79 : AC :=
 (.seq
  (.reg [] [⟨some 4, .move, [.k (.b false)], none⟩] [0, 1] [])
  (.seq
   (.reg [] [⟨some 5, .move, [.t 0], none⟩,
     ⟨some 6, .move, [.t 1], none⟩,
     ⟨some 7, .call [] false, [.f 135, .t 5, .t 6], none⟩,
     ⟨some 8, .bin .ge, [.t 7, .k (.i 0)], none⟩,
     ⟨some 4, .move, [.t 8], none⟩] [4] [])
   .ret))
def a79 : AF := ⟨c79, [.tmp 4]⟩
/-- impl.piShape$1 -/
def c200 : AC :=
 (.seq
  (.reg [] [⟨some 1, .box, [.t 0], none⟩,
    ⟨some 2, .move, [.k (.b false)], none⟩] [1] [1])
  (.seq
   (.reg [] [⟨some 3, .load (some 4) false, [.t 1], none⟩,
     ⟨some 4, .call [] false, [.f 173, .t 3], none⟩,
     ⟨some 5, .not, [.t 4], none⟩,
     ⟨some 2, .move, [.t 5], none⟩] [2] [])
   .ret))
def a200 : AF := ⟨c200, [.tmp 2]⟩
/-- impl.piShape -/
def c173 : AC :=
 (.seq
  (.reg [] [⟨some 1, .box, [.t 0], none⟩,
    ⟨some 2, .move, [.k (.b false)], none⟩] [1] [1])
  (.seq
   (.reg [] [⟨some 3, .move, [.k (.i 1)], none⟩] [1, 3] [1])
   (.seq
    (.seq
     (.reg [] [⟨some 4, .faddr 0, [.t 1], none⟩,
       ⟨some 5, .load none false, [.t 4], none⟩] [1, 3, 5] [1])
     (.block 0
      (.seq
       (.reg [] [⟨some 7, .bin .eq, [.t 5, .k (.i 0)], none⟩,
         ⟨some 6, .move, [.t 7], none⟩] [1, 3, 5, 6] [1])
       (.cond (.t 6)
        (.reg [] [⟨some 3, .move, [.k (.i 0)], none⟩] [1, 3] [1])
        (.seq
         (.seq
          (.reg [] [⟨some 9, .bin .eq, [.t 5, .k (.i 4)], none⟩,
            ⟨some 8, .move, [.t 9], none⟩] [1, 3, 5, 8] [1])
          (.cond (.t 8)
           .skip
           (.reg [] [⟨some 10, .bin .eq, [.t 5, .k (.i 5)], none⟩,
             ⟨some 8, .move, [.t 10], none⟩] [1, 3, 8] [1])))
         (.cond (.t 8)
          (.reg [] [⟨some 3, .move, [.k (.i 2)], none⟩] [1, 3] [1])
          .skip))))))
    (.seq
     (.seq
      (.reg [] [⟨some 11, .faddr 0, [.t 1], none⟩,
        ⟨some 12, .load none false, [.t 11], none⟩] [1, 3, 12] [1])
      (.block 1
       (.seq
        (.seq
         (.reg [] [⟨some 14, .bin .eq, [.t 12, .k (.i 0)], none⟩,
           ⟨some 13, .move, [.t 14], none⟩] [1, 3, 12, 13] [1])
         (.cond (.t 13)
          .skip
          (.seq
           (.reg [] [⟨some 15, .bin .eq, [.t 12, .k (.i 3)], none⟩,
             ⟨some 13, .move, [.t 15], none⟩] [1, 3, 12, 13] [1])
           (.cond (.t 13)
            .skip
            (.seq
             (.reg [] [⟨some 16, .bin .eq, [.t 12, .k (.i 4)], none⟩,
               ⟨some 13, .move, [.t 16], none⟩] [1, 3, 12, 13] [1])
             (.cond (.t 13)
              .skip
              (.reg [] [⟨some 17, .bin .eq, [.t 12, .k (.i 5)], none⟩,
                ⟨some 13, .move, [.t 17], none⟩] [1, 3, 12, 13] [1])))))))
        (.cond (.t 13)
         (.seq
          (.reg [] [⟨some 18, .faddr 1, [.t 1], none⟩,
            ⟨some 19, .load none false, [.t 18], none⟩,
            ⟨some 20, .bin .ne, [.t 19, .k (.i 0)], none⟩,
            ⟨some 21, .move, [.t 20], none⟩,
            ⟨some 22, .faddr 2, [.t 1], some (21, false)⟩,
            ⟨some 23, .load none false, [.t 22], some (21, false)⟩,
            ⟨some 24, .bin .ne, [.t 23, .k (.i 0)], some (21, false)⟩,
            ⟨some 25, .pick, [.t 21, .k (.b true), .t 24], none⟩] [1, 3, 25] [1])
          (.cond (.t 25)
           (.seq
            (.reg [] [⟨some 2, .move, [.k (.b false)], none⟩] [2] [])
            .ret)
           .skip))
         (.seq
          (.seq
           (.reg [] [⟨some 27, .bin .eq, [.t 12, .k (.i 1)], none⟩,
             ⟨some 26, .move, [.t 27], none⟩] [1, 3, 12, 26] [1])
           (.cond (.t 26)
            .skip
            (.seq
             (.reg [] [⟨some 28, .bin .eq, [.t 12, .k (.i 2)], none⟩,
               ⟨some 26, .move, [.t 28], none⟩] [1, 3, 12, 26] [1])
             (.cond (.t 26)
              .skip
              (.reg [] [⟨some 29, .bin .eq, [.t 12, .k (.i 7)], none⟩,
                ⟨some 26, .move, [.t 29], none⟩] [1, 3, 12, 26] [1])))))
          (.cond (.t 26)
           (.seq
            (.reg [] [⟨some 30, .faddr 1, [.t 1], none⟩,
              ⟨some 31, .load none false, [.t 30], none⟩,
              ⟨some 32, .call [] false, [.f 199, .t 31], none⟩,
              ⟨some 33, .not, [.t 32], none⟩,
              ⟨some 34, .move, [.t 33], none⟩,
              ⟨some 35, .faddr 2, [.t 1], some (34, false)⟩,
              ⟨some 36, .load none false, [.t 35], some (34, false)⟩,
              ⟨some 37, .call [] false, [.f 199, .t 36], some (34, false)⟩,
              ⟨some 38, .not, [.t 37], some (34, false)⟩,
              ⟨some 39, .pick, [.t 34, .k (.b true), .t 38], none⟩] [1, 3, 39] [1])
            (.cond (.t 39)
             (.seq
              (.reg [] [⟨some 2, .move, [.k (.b false)], none⟩] [2] [])
              .ret)
             .skip))
           (.seq
            (.reg [] [⟨some 41, .bin .eq, [.t 12, .k (.i 6)], none⟩,
              ⟨some 40, .move, [.t 41], none⟩] [1, 3, 40] [1])
            (.cond (.t 40)
             (.seq
              (.reg [] [⟨some 42, .faddr 1, [.t 1], none⟩,
                ⟨some 43, .load none false, [.t 42], none⟩,
                ⟨some 44, .call [] false, [.f 199, .t 43], none⟩,
                ⟨some 45, .not, [.t 44], none⟩,
                ⟨some 46, .move, [.t 45], none⟩,
                ⟨some 47, .faddr 2, [.t 1], some (46, false)⟩,
                ⟨some 48, .load none false, [.t 47], some (46, false)⟩,
                ⟨some 49, .bin .lt, [.t 48, .k (.i 0)], some (46, false)⟩,
                ⟨some 50, .pick, [.t 46, .k (.b true), .t 49], none⟩,
                ⟨some 51, .move, [.t 50], none⟩,
                ⟨some 52, .faddr 2, [.t 1], some (51, false)⟩,
                ⟨some 53, .load none false, [.t 52], some (51, false)⟩,
                ⟨some 54, .bin .ge, [.t 53, .k (.i 3)], some (51, false)⟩,
                ⟨some 55, .pick, [.t 51, .k (.b true), .t 54], none⟩] [1, 3, 55] [1])
              (.cond (.t 55)
               (.seq
                (.reg [] [⟨some 2, .move, [.k (.b false)], none⟩] [2] [])
                .ret)
               .skip))
             (.seq
              (.reg [] [⟨some 2, .move, [.k (.b false)], none⟩] [2] [])
              .ret)))))))))
     (.seq
      (.reg [] [⟨some 56, .faddr 3, [.t 1], none⟩,
        ⟨some 57, .load none false, [.t 56], none⟩,
        ⟨some 58, .len, [.t 57], none⟩,
        ⟨some 59, .move, [.t 3], none⟩,
        ⟨some 60, .bin .eq, [.t 58, .t 59], none⟩,
        ⟨some 61, .move, [.t 60], none⟩,
        ⟨some 62, .faddr 3, [.t 1], some (61, true)⟩,
        ⟨some 63, .load none false, [.t 62], some (61, true)⟩,
        ⟨some 64, .call [] false, [.f 79, .t 63, .f 200], some (61, true)⟩,
        ⟨some 65, .not, [.t 64], some (61, true)⟩,
        ⟨some 66, .pick, [.t 61, .t 65, .k (.b false)], none⟩,
        ⟨some 2, .move, [.t 66], none⟩] [2] [])
      .ret)))))
def a173 : AF := ⟨c173, [.tmp 2]⟩
/-- impl.PiOk -/
def c158 : AC :=
 (.seq
  (.reg [] [⟨some 1, .box, [.t 0], none⟩,
    ⟨some 2, .move, [.k (.b false)], none⟩] [1] [1])
  (.seq
   (.reg [] [⟨some 3, .load (some 4) false, [.t 1], none⟩,
     ⟨some 4, .call [] false, [.f 172, .t 3, .k (.i 14)], none⟩,
     ⟨some 5, .bin .le, [.t 4, .k (.i 14)], none⟩,
     ⟨some 6, .move, [.t 5], none⟩,
     ⟨some 7, .load (some 4) false, [.t 1], some (6, true)⟩,
     ⟨some 8, .call [] false, [.f 173, .t 7], some (6, true)⟩,
     ⟨some 9, .pick, [.t 6, .t 8, .k (.b false)], none⟩,
     ⟨some 2, .move, [.t 9], none⟩] [2] [])
   .ret))
def a158 : AF := ⟨c158, [.tmp 2]⟩
/-- impl.binds -/
def c174 : AC :=
 (.seq
  (.reg [] [⟨some 1, .box, [.t 0], none⟩,
    ⟨some 2, .move, [.k (.i 0)], none⟩] [1] [1])
  (.seq
   (.seq
    (.reg [] [⟨some 3, .faddr 0, [.t 1], none⟩,
      ⟨some 4, .load none false, [.t 3], none⟩] [1, 4] [1])
    (.block 0
     (.seq
      (.reg [] [⟨some 6, .bin .eq, [.t 4, .k (.i 2)], none⟩,
        ⟨some 5, .move, [.t 6], none⟩] [1, 4, 5] [1])
      (.cond (.t 5)
       (.seq
        (.reg [] [⟨some 7, .faddr 2, [.t 1], none⟩,
          ⟨some 8, .load none false, [.t 7], none⟩,
          ⟨some 2, .move, [.t 8], none⟩] [2] [])
        .ret)
       (.seq
        (.reg [] [⟨some 10, .bin .eq, [.t 4, .k (.i 6)], none⟩,
          ⟨some 9, .move, [.t 10], none⟩] [1, 9] [1])
        (.cond (.t 9)
         (.seq
          (.reg [] [⟨some 11, .faddr 1, [.t 1], none⟩,
            ⟨some 12, .load none false, [.t 11], none⟩,
            ⟨some 2, .move, [.t 12], none⟩] [2] [])
          .ret)
         .skip))))))
   (.seq
    (.reg [] [⟨some 2, .move, [.k (.i (-1))], none⟩] [2] [])
    .ret)))
def a174 : AF := ⟨c174, [.tmp 2]⟩
/-- impl.uses -/
def c175 : AC :=
 (.seq
  (.reg [] [⟨some 1, .box, [.t 0], none⟩,
    ⟨some 2, .move, [.k (.nils)], none⟩] [1] [1])
  (.seq
   (.seq
    (.reg [] [⟨some 3, .faddr 0, [.t 1], none⟩,
      ⟨some 4, .load none false, [.t 3], none⟩] [1, 4] [1])
    (.block 0
     (.seq
      (.seq
       (.reg [] [⟨some 6, .bin .eq, [.t 4, .k (.i 1)], none⟩,
         ⟨some 5, .move, [.t 6], none⟩] [1, 4, 5] [1])
       (.cond (.t 5)
        .skip
        (.reg [] [⟨some 7, .bin .eq, [.t 4, .k (.i 7)], none⟩,
          ⟨some 5, .move, [.t 7], none⟩] [1, 4, 5] [1])))
      (.cond (.t 5)
       (.seq
        (.reg [] [⟨some 8, .faddr 1, [.t 1], none⟩,
          ⟨some 9, .load none false, [.t 8], none⟩,
          ⟨some 10, .faddr 2, [.t 1], none⟩,
          ⟨some 11, .load none false, [.t 10], none⟩,
          ⟨some 12, .bslice 1 true, [.t 9, .t 11], none⟩,
          ⟨some 2, .move, [.t 12], none⟩] [2] [12, 17])
        .ret)
       (.seq
        (.reg [] [⟨some 14, .bin .eq, [.t 4, .k (.i 2)], none⟩,
          ⟨some 13, .move, [.t 14], none⟩] [1, 13] [1])
        (.cond (.t 13)
         (.seq
          (.reg [] [⟨some 15, .faddr 1, [.t 1], none⟩,
            ⟨some 16, .load none false, [.t 15], none⟩,
            ⟨some 17, .bslice 1 true, [.t 16], none⟩,
            ⟨some 2, .move, [.t 17], none⟩] [2] [12, 17])
          .ret)
         .skip))))))
   (.seq
    (.reg [] [⟨some 2, .move, [.k (.nils)], none⟩] [2] [12, 17])
    .ret)))
def a175 : AF := ⟨c175, [.tmp 2]⟩
def b159l0 : AC :=
 (.seq
  (.reg [] [⟨some 22, .bin .lt, [.t 21, .k (.i 30)], none⟩] [1, 2, 3, 13, 14, 15, 20, 21, 22] [1, 2, 3])
  (.seq
   (.cond (.t 22)
    .skip
    (.exit 2))
   (.seq
    (.block 3
     (.seq
      (.reg [] [⟨some 23, .move, [.t 21], none⟩,
        ⟨some 24, .idx none 1 30, [.t 20, .t 21], none⟩,
        ⟨some 6, .move, [.t 23], none⟩,
        ⟨some 7, .move, [.t 24], none⟩] [1, 2, 3, 6, 7, 13, 14, 15, 20, 21] [1, 2, 3])
      (.reg [] [⟨some 25, .move, [.t 6], none⟩,
        ⟨some 26, .move, [.t 6], none⟩,
        ⟨some 27, .iarr 1 30, [.t 3, .t 26], none⟩,
        ⟨some 28, .load none false, [.t 27], none⟩,
        ⟨some 29, .move, [.t 28], none⟩,
        ⟨some 30, .move, [.t 7], some (29, false)⟩,
        ⟨some 31, .pick, [.t 29, .k (.b true), .t 30], none⟩,
        ⟨some 32, .iarr 1 30, [.t 3, .t 25], none⟩,
        ⟨none, .store 1 true, [.t 32, .t 31], none⟩] [1, 2, 3, 13, 14, 15, 20, 21] [1, 2, 3])))
    (.reg [] [⟨some 33, .bin .add, [.t 21, .k (.i 1)], none⟩,
      ⟨some 21, .move, [.t 33], none⟩] [1, 2, 3, 13, 14, 15, 20, 21] [1, 2, 3]))))
def c159l0 : AC := b159l0
theorem r159l0 (call lp s) : run call lp c159l0 s = run call lp b159l0 s := rfl
def b159l1 : AC :=
 (.seq
  (.reg [] [⟨some 16, .bin .lt, [.t 15, .t 14], none⟩] [1, 2, 3, 13, 14, 15, 16] [1, 2, 3])
  (.seq
   (.cond (.t 16)
    .skip
    (.exit 0))
   (.seq
    (.block 1
     (.seq
      (.reg [] [⟨some 17, .iaddr 4, [.t 13, .t 15], none⟩,
        ⟨some 18, .load (some 4) false, [.t 17], none⟩,
        ⟨some 5, .alloc [.i 0, .i 0, .i 0, .nils], [], none⟩,
        ⟨none, .store 4 true, [.t 5, .t 18], none⟩] [1, 2, 3, 5, 13, 14, 15] [1, 2, 3, 5])
      (.seq
       (.reg [] [⟨some 19, .load (some 4) false, [.t 5], none⟩,
         ⟨some 20, .call [] false, [.f 159, .t 19], none⟩,
         ⟨some 21, .move, [.k (.i 0)], none⟩] [1, 2, 3, 13, 14, 15, 20, 21] [1, 2, 3])
       (.block 2
        (.loop [1, 2, 3, 13, 14, 15, 20, 21] [1, 2, 3] c159l0)))))
    (.reg [] [⟨some 34, .bin .add, [.t 15, .k (.i 1)], none⟩,
      ⟨some 15, .move, [.t 34], none⟩] [1, 2, 3, 13, 14, 15] [1, 2, 3]))))
def c159l1 : AC := b159l1
theorem r159l1 (call lp s) : run call lp c159l1 s = run call lp b159l1 s := rfl
def b159l2 : AC :=
 (.seq
  (.reg [] [⟨some 45, .bin .lt, [.t 44, .t 43], none⟩] [2, 3, 42, 43, 44, 45] [2, 3, 42])
  (.seq
   (.cond (.t 45)
    .skip
    (.exit 4))
   (.seq
    (.block 5
     (.seq
      (.reg [] [⟨some 46, .iaddr 1, [.t 42, .t 44], none⟩,
        ⟨some 47, .load none false, [.t 46], none⟩,
        ⟨some 10, .move, [.t 47], none⟩] [2, 3, 10, 42, 43, 44] [2, 3, 42])
      (.reg [] [⟨some 48, .move, [.t 10], none⟩,
        ⟨some 49, .iarr 1 30, [.t 3, .t 48], none⟩,
        ⟨none, .store 1 true, [.t 49, .k (.b true)], none⟩] [2, 3, 42, 43, 44] [2, 3, 42])))
    (.reg [] [⟨some 50, .bin .add, [.t 44, .k (.i 1)], none⟩,
      ⟨some 44, .move, [.t 50], none⟩] [2, 3, 42, 43, 44] [2, 3, 42]))))
def c159l2 : AC := b159l2
theorem r159l2 (call lp s) : run call lp c159l2 s = run call lp b159l2 s := rfl
/-- impl.free -/
def c159 : AC :=
 (.seq
  (.reg [] [⟨some 1, .box, [.t 0], none⟩,
    ⟨some 2, .alloc [.b false, .b false, .b false, .b false, .b false, .b false, .b false, .b false, .b false, .b false, .b false, .b false, .b false, .b false, .b false, .b false, .b false, .b false, .b false, .b false, .b false, .b false, .b false, .b false, .b false, .b false, .b false, .b false, .b false, .b false], [], none⟩] [1, 2] [1, 2])
  (.seq
   (.reg [] [⟨some 11, .build [.b false, .b false, .b false, .b false, .b false, .b false, .b false, .b false, .b false, .b false, .b false, .b false, .b false, .b false, .b false, .b false, .b false, .b false, .b false, .b false, .b false, .b false, .b false, .b false, .b false, .b false, .b false, .b false, .b false, .b false] [], [], none⟩,
     ⟨some 3, .alloc [.b false, .b false, .b false, .b false, .b false, .b false, .b false, .b false, .b false, .b false, .b false, .b false, .b false, .b false, .b false, .b false, .b false, .b false, .b false, .b false, .b false, .b false, .b false, .b false, .b false, .b false, .b false, .b false, .b false, .b false], [], none⟩,
     ⟨none, .store 30 true, [.t 3, .t 11], none⟩] [1, 2, 3] [1, 2, 3])
   (.seq
    (.seq
     (.reg [] [⟨some 12, .faddr 3, [.t 1], none⟩,
       ⟨some 13, .load none false, [.t 12], none⟩,
       ⟨some 14, .len, [.t 13], none⟩,
       ⟨some 15, .move, [.k (.i 0)], none⟩] [1, 2, 3, 13, 14, 15] [1, 2, 3])
     (.block 0
      (.loop [1, 2, 3, 13, 14, 15] [1, 2, 3] c159l1)))
    (.seq
     (.seq
      (.reg [] [⟨some 35, .load (some 4) false, [.t 1], none⟩,
        ⟨some 36, .call [] false, [.f 174, .t 35], none⟩,
        ⟨some 8, .move, [.t 36], none⟩] [1, 2, 3, 8] [1, 2, 3])
      (.seq
       (.reg [] [⟨some 37, .move, [.t 8], none⟩,
         ⟨some 38, .bin .ge, [.t 37, .k (.i 0)], none⟩] [1, 2, 3, 8, 38] [1, 2, 3])
       (.cond (.t 38)
        (.reg [] [⟨some 39, .move, [.t 8], none⟩,
          ⟨some 40, .iarr 1 30, [.t 3, .t 39], none⟩,
          ⟨none, .store 1 true, [.t 40, .k (.b false)], none⟩] [1, 2, 3] [1, 2, 3])
        .skip)))
     (.seq
      (.seq
       (.reg [] [⟨some 41, .load (some 4) false, [.t 1], none⟩,
         ⟨some 42, .call [] false, [.f 175, .t 41], none⟩,
         ⟨some 43, .len, [.t 42], none⟩,
         ⟨some 44, .move, [.k (.i 0)], none⟩] [2, 3, 42, 43, 44] [2, 3, 42])
       (.block 4
        (.loop [2, 3, 42, 43, 44] [2, 3, 42] c159l2)))
      (.seq
       (.reg [] [⟨some 51, .load (some 30) false, [.t 3], none⟩,
         ⟨none, .store 30 true, [.t 2, .t 51], none⟩] [2] [2])
       .ret))))))
def a159 : AF := ⟨c159, [.cell 2 (some 30)]⟩
def b132l0 : AC :=
 (.seq
  (.reg [] [⟨some 40, .bin .lt, [.t 39, .k (.i 30)], none⟩] [1, 38, 39, 40] [])
  (.seq
   (.cond (.t 40)
    .skip
    (.exit 0))
   (.seq
    (.block 1
     (.seq
      (.reg [] [⟨some 41, .move, [.t 39], none⟩,
        ⟨some 42, .idx none 1 30, [.t 38, .t 39], none⟩,
        ⟨some 5, .move, [.t 41], none⟩,
        ⟨some 6, .move, [.t 42], none⟩] [1, 5, 6, 38, 39] [])
      (.seq
       (.reg [] [⟨some 43, .move, [.t 6], none⟩,
         ⟨some 44, .move, [.t 43], none⟩,
         ⟨some 45, .move, [.t 5], some (44, true)⟩,
         ⟨some 46, .move, [.t 1], some (44, true)⟩,
         ⟨some 47, .bin .add, [.k (.i 6), .t 46], some (44, true)⟩,
         ⟨some 48, .bin .ge, [.t 45, .t 47], some (44, true)⟩,
         ⟨some 49, .pick, [.t 44, .t 48, .k (.b false)], none⟩] [1, 38, 39, 49] [])
       (.cond (.t 49)
        (.seq
         (.reg [] [⟨some 4, .move, [.k (.b false)], none⟩] [4] [])
         .ret)
        .skip))))
    (.reg [] [⟨some 50, .bin .add, [.t 39, .k (.i 1)], none⟩,
      ⟨some 39, .move, [.t 50], none⟩] [1, 38, 39] []))))
def c132l0 : AC := b132l0
theorem r132l0 (call lp s) : run call lp c132l0 s = run call lp b132l0 s := rfl
/-- impl.memberOk -/
def c132 : AC :=
 (.seq
  (.reg [] [⟨some 2, .box, [.t 0], none⟩,
    ⟨some 4, .move, [.k (.b false)], none⟩] [1, 2] [2])
  (.seq
   (.seq
    (.reg [] [⟨some 7, .load (some 4) false, [.t 2], none⟩,
      ⟨some 8, .call [] false, [.f 158, .t 7], none⟩,
      ⟨some 9, .not, [.t 8], none⟩,
      ⟨some 10, .move, [.t 9], none⟩,
      ⟨some 11, .faddr 0, [.t 2], some (10, false)⟩,
      ⟨some 12, .load none false, [.t 11], some (10, false)⟩,
      ⟨some 13, .bin .eq, [.t 12, .k (.i 0)], some (10, false)⟩,
      ⟨some 14, .pick, [.t 10, .k (.b true), .t 13], none⟩,
      ⟨some 15, .move, [.t 14], none⟩,
      ⟨some 16, .faddr 0, [.t 2], some (15, false)⟩,
      ⟨some 17, .load none false, [.t 16], some (15, false)⟩,
      ⟨some 18, .bin .eq, [.t 17, .k (.i 5)], some (15, false)⟩,
      ⟨some 19, .pick, [.t 15, .k (.b true), .t 18], none⟩,
      ⟨some 20, .move, [.t 19], none⟩,
      ⟨some 21, .faddr 0, [.t 2], some (20, false)⟩,
      ⟨some 22, .load none false, [.t 21], some (20, false)⟩,
      ⟨some 23, .bin .eq, [.t 22, .k (.i 6)], some (20, false)⟩,
      ⟨some 24, .pick, [.t 20, .k (.b true), .t 23], none⟩,
      ⟨some 25, .move, [.t 24], none⟩,
      ⟨some 26, .faddr 0, [.t 2], some (25, false)⟩,
      ⟨some 27, .load none false, [.t 26], some (25, false)⟩,
      ⟨some 28, .bin .eq, [.t 27, .k (.i 7)], some (25, false)⟩,
      ⟨some 29, .move, [.t 28], some (25, false)⟩,
      ⟨some 30, .faddr 1, [.t 2], some (29, true)⟩,
      ⟨some 31, .load none false, [.t 30], some (29, true)⟩,
      ⟨some 32, .faddr 2, [.t 2], some (29, true)⟩,
      ⟨some 33, .load none false, [.t 32], some (29, true)⟩,
      ⟨some 34, .bin .eq, [.t 31, .t 33], some (29, true)⟩,
      ⟨some 35, .pick, [.t 29, .t 34, .k (.b false)], some (25, false)⟩,
      ⟨some 36, .pick, [.t 25, .k (.b true), .t 35], none⟩] [1, 2, 36] [2])
    (.cond (.t 36)
     (.seq
      (.reg [] [⟨some 4, .move, [.k (.b false)], none⟩] [4] [])
      .ret)
     .skip))
   (.seq
    (.seq
     (.reg [] [⟨some 37, .load (some 4) false, [.t 2], none⟩,
       ⟨some 38, .call [] false, [.f 159, .t 37], none⟩,
       ⟨some 39, .move, [.k (.i 0)], none⟩] [1, 38, 39] [])
     (.block 0
      (.loop [1, 38, 39] [] c132l0)))
    (.seq
     (.reg [] [⟨some 4, .move, [.k (.b true)], none⟩] [4] [])
     .ret))))
def a132 : AF := ⟨c132, [.tmp 4]⟩
/-- impl.PoolOk$1 -/
def c131 : AC :=
 (.seq
  (.reg [] [⟨some 2, .box, [.t 0], none⟩,
    ⟨some 3, .move, [.k (.b false)], none⟩] [1, 2] [2])
  (.seq
   (.reg [] [⟨some 4, .load (some 4) false, [.t 2], none⟩,
     ⟨some 5, .faddr 0, [.t 1], none⟩,
     ⟨some 6, .load none false, [.t 5], none⟩,
     ⟨some 7, .len, [.t 6], none⟩,
     ⟨some 8, .call [] false, [.f 132, .t 4, .t 7], none⟩,
     ⟨some 9, .not, [.t 8], none⟩,
     ⟨some 3, .move, [.t 9], none⟩] [3] [])
   .ret))
def a131 : AF := ⟨c131, [.tmp 3]⟩
def b76l0 : AC :=
 (.seq
  (.reg [] [⟨some 13, .bin .lt, [.t 12, .t 11], none⟩] [1, 10, 11, 12, 13] [1])
  (.seq
   (.cond (.t 13)
    .skip
    (.exit 0))
   (.seq
    (.block 1
     (.seq
      (.reg [] [⟨some 14, .iaddr 1, [.t 10, .t 12], none⟩,
        ⟨some 15, .load none false, [.t 14], none⟩,
        ⟨some 4, .move, [.t 15], none⟩] [1, 4, 10, 11, 12] [1])
      (.seq
       (.reg [] [⟨some 16, .move, [.t 4], none⟩,
         ⟨some 17, .bin .lt, [.t 16, .k (.i 0)], none⟩,
         ⟨some 18, .move, [.t 17], none⟩,
         ⟨some 19, .move, [.t 4], some (18, false)⟩,
         ⟨some 20, .bin .ge, [.t 19, .k (.i 3)], some (18, false)⟩,
         ⟨some 21, .pick, [.t 18, .k (.b true), .t 20], none⟩] [1, 10, 11, 12, 21] [1])
       (.cond (.t 21)
        (.seq
         (.reg [] [⟨some 2, .move, [.k (.b false)], none⟩] [2] [])
         .ret)
        .skip))))
    (.reg [] [⟨some 22, .bin .add, [.t 12, .k (.i 1)], none⟩,
      ⟨some 12, .move, [.t 22], none⟩] [1, 10, 11, 12] [1]))))
def c76l0 : AC := b76l0
theorem r76l0 (call lp s) : run call lp c76l0 s = run call lp b76l0 s := rfl
/-- impl.PoolOk -/
def c76 : AC :=
 (.seq
  (.reg [] [⟨some 1, .box, [.t 0], none⟩,
    ⟨some 2, .move, [.k (.b false)], none⟩] [1] [1])
  (.seq
   (.seq
    (.reg [] [⟨some 5, .faddr 0, [.t 1], none⟩,
      ⟨some 6, .load none false, [.t 5], none⟩,
      ⟨some 7, .len, [.t 6], none⟩,
      ⟨some 8, .bin .gt, [.t 7, .k (.i 4)], none⟩] [1, 8] [1])
    (.cond (.t 8)
     (.seq
      (.reg [] [⟨some 2, .move, [.k (.b false)], none⟩] [2] [])
      .ret)
     .skip))
   (.seq
    (.seq
     (.reg [] [⟨some 9, .faddr 0, [.t 1], none⟩,
       ⟨some 10, .load none false, [.t 9], none⟩,
       ⟨some 11, .len, [.t 10], none⟩,
       ⟨some 12, .move, [.k (.i 0)], none⟩] [1, 10, 11, 12] [1])
     (.block 0
      (.loop [1, 10, 11, 12] [1] c76l0)))
    (.seq
     (.reg [] [⟨some 23, .faddr 1, [.t 1], none⟩,
       ⟨some 24, .load none false, [.t 23], none⟩,
       ⟨some 25, .mkfunc 131, [.t 1], none⟩,
       ⟨some 26, .call [] false, [.f 79, .t 24, .t 25], none⟩,
       ⟨some 27, .not, [.t 26], none⟩,
       ⟨some 2, .move, [.t 27], none⟩] [2] [])
     .ret))))
def a76 : AF := ⟨c76, [.tmp 2]⟩
def b160l0 : AC :=
 (.seq
  (.reg [] [⟨some 9, .bin .lt, [.t 8, .t 7], none⟩] [0, 1, 7, 8, 9] [])
  (.seq
   (.cond (.t 9)
    .skip
    (.exit 0))
   (.seq
    (.block 1
     (.seq
      (.reg [] [⟨some 10, .move, [.t 8], none⟩,
        ⟨some 5, .move, [.t 10], none⟩] [0, 1, 5, 7, 8] [])
      (.seq
       (.reg [] [⟨some 11, .move, [.t 1], none⟩,
         ⟨some 12, .move, [.t 0], none⟩,
         ⟨some 13, .move, [.t 5], none⟩,
         ⟨some 14, .iaddr 1, [.t 12, .t 13], none⟩,
         ⟨some 15, .load none false, [.t 14], none⟩,
         ⟨some 16, .call [] false, [.t 11, .t 15], none⟩] [0, 1, 5, 7, 8, 16] [])
       (.cond (.t 16)
        (.seq
         (.reg [] [⟨some 17, .move, [.t 5], none⟩,
           ⟨some 4, .move, [.t 17], none⟩] [4] [])
         .ret)
        .skip))))
    (.reg [] [⟨some 18, .bin .add, [.t 8, .k (.i 1)], none⟩,
      ⟨some 8, .move, [.t 18], none⟩] [0, 1, 7, 8] []))))
def c160l0 : AC := b160l0
theorem r160l0 (call lp s) : run call lp c160l0 s = run call lp b160l0 s := rfl
/-- slices.IndexFunc[[]int,int] -/
def c160 : AC :=
 (.seq
  (.reg [] [⟨some 4, .move, [.k (.i 0)], none⟩] [0, 1] [])
  (.seq
   (.seq
    (.reg [] [⟨some 6, .move, [.t 0], none⟩,
      ⟨some 7, .len, [.t 6], none⟩,
      ⟨some 8, .move, [.k (.i 0)], none⟩] [0, 1, 7, 8] [])
    (.block 0
     (.loop [0, 1, 7, 8] [] c160l0)))
   (.seq
    (.reg [] [⟨some 4, .move, [.k (.i (-1))], none⟩] [4] [])
    .ret)))
def a160 : AF := ⟨c160, [.tmp 4]⟩
/-- slices.ContainsFunc[[]int,int] -/
def c133 : AC :=
 (.seq
  (.reg [] [⟨some 4, .move, [.k (.b false)], none⟩] [0, 1] [])
  (.seq
   (.reg [] [⟨some 5, .move, [.t 0], none⟩,
     ⟨some 6, .move, [.t 1], none⟩,
     ⟨some 7, .call [] false, [.f 160, .t 5, .t 6], none⟩,
     ⟨some 8, .bin .ge, [.t 7, .k (.i 0)], none⟩,
     ⟨some 4, .move, [.t 8], none⟩] [4] [])
   .ret))
def a133 : AF := ⟨c133, [.tmp 4]⟩
/-- impl.sortNumbers$1 -/
def c134 : AC :=
 (.seq
  (.reg [] [⟨some 2, .move, [.k (.b false)], none⟩] [0] [])
  (.seq
   (.reg [] [⟨some 3, .move, [.t 0], none⟩,
     ⟨some 4, .bin .lt, [.t 3, .k (.i 0)], none⟩,
     ⟨some 5, .move, [.t 4], none⟩,
     ⟨some 6, .move, [.t 0], some (5, false)⟩,
     ⟨some 7, .bin .ge, [.t 6, .k (.i 3)], some (5, false)⟩,
     ⟨some 8, .pick, [.t 5, .k (.b true), .t 7], none⟩,
     ⟨some 2, .move, [.t 8], none⟩] [2] [])
   .ret))
def a134 : AF := ⟨c134, [.tmp 2]⟩
/-- impl.sortNumbers -/
def c77 : AC :=
 (.seq
  (.reg [] [⟨some 4, .move, [.k (.b false)], none⟩] [0, 1] [])
  (.seq
   (.reg [] [⟨some 5, .move, [.t 0], none⟩,
     ⟨some 6, .len, [.t 5], none⟩,
     ⟨some 7, .move, [.t 1], none⟩,
     ⟨some 8, .bin .eq, [.t 6, .t 7], none⟩,
     ⟨some 9, .move, [.t 8], none⟩,
     ⟨some 10, .move, [.t 0], some (9, true)⟩,
     ⟨some 11, .call [] false, [.f 133, .t 10, .f 134], some (9, true)⟩,
     ⟨some 12, .not, [.t 11], some (9, true)⟩,
     ⟨some 13, .pick, [.t 9, .t 12, .k (.b false)], none⟩,
     ⟨some 4, .move, [.t 13], none⟩] [4] [])
   .ret))
def a77 : AF := ⟨c77, [.tmp 4]⟩
/-- slices.Clone[[]int,int] -/
def c78 : AC :=
 (.seq
  (.reg [] [⟨some 2, .move, [.k (.nils)], none⟩] [0] [])
  (.seq
   (.seq
    (.reg [] [⟨some 3, .move, [.t 0], none⟩,
      ⟨some 4, .isnil, [.t 3, .k (.nils)], none⟩] [0, 4] [])
    (.cond (.t 4)
     (.seq
      (.reg [] [⟨some 2, .move, [.k (.nils)], none⟩] [2] [5, 7])
      .ret)
     .skip))
   (.seq
    (.reg [] [⟨some 5, .bslice 1 true, [], none⟩,
      ⟨some 6, .move, [.t 0], none⟩,
      ⟨some 7, .append 1 true, [.t 5, .t 6], none⟩,
      ⟨some 2, .move, [.t 7], none⟩] [2] [5, 7])
    .ret)))
def a78 : AF := ⟨c78, [.tmp 2]⟩
/-- impl.sortedIn$1 -/
def c136 : AC :=
 (.seq
  (.reg [] [⟨some 3, .box, [.t 0], none⟩,
    ⟨some 4, .move, [.k (.b false)], none⟩] [1, 2, 3] [3])
  (.seq
   (.reg [] [⟨some 5, .load (some 4) false, [.t 3], none⟩,
     ⟨some 6, .load none false, [.t 1], none⟩,
     ⟨some 7, .load none false, [.t 2], none⟩,
     ⟨some 8, .call [] false, [.f 81, .t 5, .t 6, .t 7], none⟩,
     ⟨some 9, .not, [.t 8], none⟩,
     ⟨some 4, .move, [.t 9], none⟩] [4] [])
   .ret))
def a136 : AF := ⟨c136, [.tmp 4]⟩
/-- impl.sortedIn -/
def c81 : AC :=
 (.seq
  (.reg [] [⟨some 3, .box, [.t 0], none⟩,
    ⟨some 4, .box, [.t 1], none⟩,
    ⟨some 5, .box, [.t 2], none⟩,
    ⟨some 6, .move, [.k (.b false)], none⟩] [3, 4, 5] [3, 4, 5, 50, 59])
  (.seq
   (.seq
    (.reg [] [⟨some 8, .faddr 0, [.t 3], none⟩,
      ⟨some 9, .load none false, [.t 8], none⟩] [3, 4, 5, 9] [3, 4, 5, 50, 59])
    (.block 0
     (.seq
      (.reg [] [⟨some 11, .bin .eq, [.t 9, .k (.i 1)], none⟩,
        ⟨some 10, .move, [.t 11], none⟩] [3, 4, 5, 9, 10] [3, 4, 5, 50, 59])
      (.cond (.t 10)
       (.seq
        (.reg [0, 1, 2, 3, 4, 5, 6, 7, 8, 9, 10, 11, 12, 13] [⟨some 12, .load none false, [.t 4], none⟩,
          ⟨some 13, .faddr 2, [.t 3], none⟩,
          ⟨some 14, .load none false, [.t 13], none⟩,
          ⟨some 15, .iaddr 1, [.t 12, .t 14], none⟩,
          ⟨some 16, .load none false, [.t 15], none⟩,
          ⟨some 17, .load none false, [.t 5], none⟩,
          ⟨some 18, .load none false, [.t 4], none⟩,
          ⟨some 19, .faddr 1, [.t 3], none⟩,
          ⟨some 20, .load none false, [.t 19], none⟩,
          ⟨some 21, .iaddr 1, [.t 18, .t 20], none⟩,
          ⟨some 22, .load none false, [.t 21], none⟩,
          ⟨some 23, .iaddr 1, [.t 17, .t 22], none⟩,
          ⟨some 24, .load none false, [.t 23], none⟩,
          ⟨some 25, .bin .ne, [.t 16, .t 24], none⟩] [3, 4, 5, 25] [3, 4, 5, 50, 59])
        (.cond (.t 25)
         (.seq
          (.reg [] [⟨some 6, .move, [.k (.b false)], none⟩] [6] [])
          .ret)
         .skip))
       (.seq
        (.reg [] [⟨some 27, .bin .eq, [.t 9, .k (.i 7)], none⟩,
          ⟨some 26, .move, [.t 27], none⟩] [3, 4, 5, 9, 26] [3, 4, 5, 50, 59])
        (.cond (.t 26)
         (.seq
          (.reg [0, 1, 2, 3, 4, 5, 6, 7, 8, 9, 10] [⟨some 28, .load none false, [.t 4], none⟩,
            ⟨some 29, .faddr 1, [.t 3], none⟩,
            ⟨some 30, .load none false, [.t 29], none⟩,
            ⟨some 31, .iaddr 1, [.t 28, .t 30], none⟩,
            ⟨some 32, .load none false, [.t 31], none⟩,
            ⟨some 33, .load none false, [.t 4], none⟩,
            ⟨some 34, .faddr 2, [.t 3], none⟩,
            ⟨some 35, .load none false, [.t 34], none⟩,
            ⟨some 36, .iaddr 1, [.t 33, .t 35], none⟩,
            ⟨some 37, .load none false, [.t 36], none⟩,
            ⟨some 38, .bin .ne, [.t 32, .t 37], none⟩] [3, 4, 5, 38] [3, 4, 5, 50, 59])
          (.cond (.t 38)
           (.seq
            (.reg [] [⟨some 6, .move, [.k (.b false)], none⟩] [6] [])
            .ret)
           .skip))
         (.seq
          (.reg [] [⟨some 40, .bin .eq, [.t 9, .k (.i 2)], none⟩,
            ⟨some 39, .move, [.t 40], none⟩] [3, 4, 5, 9, 39] [3, 4, 5, 50, 59])
          (.cond (.t 39)
           (.seq
            (.reg [0, 1, 2, 3, 4, 5, 6, 7, 8] [⟨some 41, .load none false, [.t 5], none⟩,
              ⟨some 42, .load none false, [.t 4], none⟩,
              ⟨some 43, .faddr 1, [.t 3], none⟩,
              ⟨some 44, .load none false, [.t 43], none⟩,
              ⟨some 45, .iaddr 1, [.t 42, .t 44], none⟩,
              ⟨some 46, .load none false, [.t 45], none⟩,
              ⟨some 47, .iaddr 1, [.t 41, .t 46], none⟩,
              ⟨some 48, .load none false, [.t 47], none⟩,
              ⟨some 7, .move, [.t 48], none⟩] [3, 4, 5, 7] [3, 4, 5, 50, 59])
            (.seq
             (.reg [] [⟨some 49, .load none false, [.t 4], none⟩,
               ⟨some 50, .call [] false, [.f 78, .t 49], none⟩,
               ⟨none, .store 1 true, [.t 4, .t 50], none⟩] [3, 4, 5, 7] [3, 4, 5, 50, 59])
             (.reg [] [⟨some 51, .load none false, [.t 4], none⟩,
               ⟨some 52, .faddr 2, [.t 3], none⟩,
               ⟨some 53, .load none false, [.t 52], none⟩,
               ⟨some 54, .move, [.t 7], none⟩,
               ⟨some 55, .iaddr 1, [.t 51, .t 53], none⟩,
               ⟨none, .store 1 true, [.t 55, .t 54], none⟩] [3, 4, 5] [3, 4, 5, 50, 59])))
           (.seq
            (.reg [] [⟨some 57, .bin .eq, [.t 9, .k (.i 6)], none⟩,
              ⟨some 56, .move, [.t 57], none⟩] [3, 4, 5, 56] [3, 4, 5, 50, 59])
            (.cond (.t 56)
             (.seq
              (.reg [] [⟨some 58, .load none false, [.t 4], none⟩,
                ⟨some 59, .call [] false, [.f 78, .t 58], none⟩,
                ⟨none, .store 1 true, [.t 4, .t 59], none⟩] [3, 4, 5] [3, 4, 5, 50, 59])
              (.reg [] [⟨some 60, .load none false, [.t 4], none⟩,
                ⟨some 61, .faddr 1, [.t 3], none⟩,
                ⟨some 62, .load none false, [.t 61], none⟩,
                ⟨some 63, .faddr 2, [.t 3], none⟩,
                ⟨some 64, .load none false, [.t 63], none⟩,
                ⟨some 65, .iaddr 1, [.t 60, .t 62], none⟩,
                ⟨none, .store 1 true, [.t 65, .t 64], none⟩] [3, 4, 5] [3, 4, 5, 50, 59]))
             .skip))))))))))
   (.seq
    (.reg [] [⟨some 66, .faddr 3, [.t 3], none⟩,
      ⟨some 67, .load none false, [.t 66], none⟩,
      ⟨some 68, .mkfunc 136, [.t 4, .t 5], none⟩,
      ⟨some 69, .call [] false, [.f 79, .t 67, .t 68], none⟩,
      ⟨some 70, .not, [.t 69], none⟩,
      ⟨some 6, .move, [.t 70], none⟩] [6] [])
    .ret)))
def a81 : AF := ⟨c81, [.tmp 6]⟩
/-- impl.PoolSorted$1 -/
def c80 : AC :=
 (.seq
  (.reg [] [⟨some 3, .box, [.t 0], none⟩,
    ⟨some 4, .move, [.k (.b false)], none⟩] [1, 2, 3] [3])
  (.seq
   (.reg [] [⟨some 5, .load (some 4) false, [.t 3], none⟩,
     ⟨some 6, .load none false, [.t 1], none⟩,
     ⟨some 7, .load none false, [.t 2], none⟩,
     ⟨some 8, .call [] false, [.f 81, .t 5, .t 6, .t 7], none⟩,
     ⟨some 9, .not, [.t 8], none⟩,
     ⟨some 4, .move, [.t 9], none⟩] [4] [])
   .ret))
def a80 : AF := ⟨c80, [.tmp 4]⟩
/-- impl.PoolSorted -/
def c30 : AC :=
 (.seq
  (.reg [] [⟨some 3, .box, [.t 0], none⟩,
    ⟨some 4, .box, [.t 1], none⟩,
    ⟨some 5, .box, [.t 2], none⟩,
    ⟨some 6, .move, [.k (.b false)], none⟩] [3, 4, 5] [3, 4, 5, 21])
  (.seq
   (.seq
    (.reg [] [⟨some 7, .load (some 2) false, [.t 3], none⟩,
      ⟨some 8, .call [] false, [.f 76, .t 7], none⟩,
      ⟨some 9, .not, [.t 8], none⟩,
      ⟨some 10, .move, [.t 9], none⟩,
      ⟨some 11, .load none false, [.t 4], some (10, false)⟩,
      ⟨some 12, .call [] false, [.f 77, .t 11, .k (.i 30)], some (10, false)⟩,
      ⟨some 13, .not, [.t 12], some (10, false)⟩,
      ⟨some 14, .pick, [.t 10, .k (.b true), .t 13], none⟩,
      ⟨some 15, .move, [.t 14], none⟩,
      ⟨some 16, .load none false, [.t 5], some (15, false)⟩,
      ⟨some 17, .call [] false, [.f 77, .t 16, .k (.i 3)], some (15, false)⟩,
      ⟨some 18, .not, [.t 17], some (15, false)⟩,
      ⟨some 19, .pick, [.t 15, .k (.b true), .t 18], none⟩] [3, 4, 5, 19] [3, 4, 5, 21])
    (.cond (.t 19)
     (.seq
      (.reg [] [⟨some 6, .move, [.k (.b false)], none⟩] [6] [])
      .ret)
     .skip))
   (.seq
    (.reg [] [⟨some 20, .load none false, [.t 4], none⟩,
      ⟨some 21, .call [] false, [.f 78, .t 20], none⟩,
      ⟨none, .store 1 true, [.t 4, .t 21], none⟩] [3, 4, 5] [3, 4, 5, 21])
    (.seq
     (.reg [0, 3, 1, 2, 6] [⟨some 22, .load none false, [.t 4], none⟩,
       ⟨some 24, .faddr 0, [.t 3], none⟩,
       ⟨some 25, .load none false, [.t 24], none⟩,
       ⟨some 23, .slice 1 true false, [.t 22, .k (.i 6)], none⟩,
       ⟨none, .chk (.faddr 0), [.t 24, .t 3], none⟩,
       ⟨none, .chk (.load none false), [.t 25, .t 24], none⟩,
       ⟨some 26, .copy, [.t 23, .t 25], none⟩] [3, 4, 5] [3, 4, 5, 21])
     (.seq
      (.reg [] [⟨some 27, .faddr 1, [.t 3], none⟩,
        ⟨some 28, .load none false, [.t 27], none⟩,
        ⟨some 29, .mkfunc 80, [.t 4, .t 5], none⟩,
        ⟨some 30, .call [] false, [.f 79, .t 28, .t 29], none⟩,
        ⟨some 31, .not, [.t 30], none⟩,
        ⟨some 6, .move, [.t 31], none⟩] [6] [])
      .ret)))))
def a30 : AF := ⟨c30, [.tmp 6]⟩
def b32l0 : AC :=
 (.seq
  (.seq
   (.reg [] [⟨some 11, .move, [.t 5], none⟩,
     ⟨some 12, .move, [.t 0], none⟩,
     ⟨some 13, .len, [.t 12], none⟩,
     ⟨some 14, .bin .lt, [.t 11, .t 13], none⟩] [0, 1, 5, 14] [])
   (.cond (.t 14)
    .skip
    (.exit 0)))
  (.seq
   (.block 1
    (.seq
     (.reg [0, 1, 2, 3, 4, 5, 6, 7, 8] [⟨some 17, .move, [.t 0], none⟩,
       ⟨some 18, .move, [.t 5], none⟩,
       ⟨some 19, .iaddr 1, [.t 17, .t 18], none⟩,
       ⟨some 20, .load none false, [.t 19], none⟩,
       ⟨some 21, .move, [.t 1], none⟩,
       ⟨some 22, .move, [.t 5], none⟩,
       ⟨some 23, .iaddr 1, [.t 21, .t 22], none⟩,
       ⟨some 24, .load none false, [.t 23], none⟩,
       ⟨some 25, .bin .ne, [.t 20, .t 24], none⟩] [0, 1, 5, 25] [])
     (.cond (.t 25)
      (.seq
       (.reg [] [⟨some 4, .move, [.k (.b false)], none⟩] [4] [])
       .ret)
      .skip)))
   (.reg [] [⟨some 15, .move, [.t 5], none⟩,
     ⟨some 16, .bin .add, [.t 15, .k (.i 1)], none⟩,
     ⟨some 5, .move, [.t 16], none⟩] [0, 1, 5] [])))
def c32l0 : AC := b32l0
theorem r32l0 (call lp s) : run call lp c32l0 s = run call lp b32l0 s := rfl
/-- laws.eqIntS -/
def c32 : AC :=
 (.seq
  (.reg [] [⟨some 4, .move, [.k (.b false)], none⟩] [0, 1] [])
  (.seq
   (.seq
    (.reg [] [⟨some 6, .move, [.t 0], none⟩,
      ⟨some 7, .len, [.t 6], none⟩,
      ⟨some 8, .move, [.t 1], none⟩,
      ⟨some 9, .len, [.t 8], none⟩,
      ⟨some 10, .bin .ne, [.t 7, .t 9], none⟩] [0, 1, 10] [])
    (.cond (.t 10)
     (.seq
      (.reg [] [⟨some 4, .move, [.k (.b false)], none⟩] [4] [])
      .ret)
     .skip))
   (.seq
    (.seq
     (.reg [] [⟨some 5, .move, [.k (.i 0)], none⟩] [0, 1, 5] [])
     (.block 0
      (.loop [0, 1, 5] [] c32l0)))
    (.seq
     (.reg [] [⟨some 4, .move, [.k (.b true)], none⟩] [4] [])
     .ret))))
def a32 : AF := ⟨c32, [.tmp 4]⟩
/-- laws.eqPi -/
def c137 : AC :=
 (.seq
  (.reg [] [⟨some 2, .box, [.t 0], none⟩,
    ⟨some 3, .box, [.t 1], none⟩,
    ⟨some 4, .move, [.k (.b false)], none⟩] [2, 3] [2, 3])
  (.seq
   (.seq
    (.reg [] [⟨some 5, .faddr 0, [.t 2], none⟩,
      ⟨some 6, .load none false, [.t 5], none⟩,
      ⟨some 7, .faddr 0, [.t 3], none⟩,
      ⟨some 8, .load none false, [.t 7], none⟩,
      ⟨some 9, .bin .ne, [.t 6, .t 8], none⟩] [2, 3, 9] [2, 3])
    (.cond (.t 9)
     (.seq
      (.reg [] [⟨some 4, .move, [.k (.b false)], none⟩] [4] [])
      .ret)
     .skip))
   (.seq
    (.seq
     (.reg [] [⟨some 10, .faddr 1, [.t 2], none⟩,
       ⟨some 11, .load none false, [.t 10], none⟩,
       ⟨some 12, .faddr 1, [.t 3], none⟩,
       ⟨some 13, .load none false, [.t 12], none⟩,
       ⟨some 14, .bin .ne, [.t 11, .t 13], none⟩] [2, 3, 14] [2, 3])
     (.cond (.t 14)
      (.seq
       (.reg [] [⟨some 4, .move, [.k (.b false)], none⟩] [4] [])
       .ret)
      .skip))
    (.seq
     (.seq
      (.reg [] [⟨some 15, .faddr 2, [.t 2], none⟩,
        ⟨some 16, .load none false, [.t 15], none⟩,
        ⟨some 17, .faddr 2, [.t 3], none⟩,
        ⟨some 18, .load none false, [.t 17], none⟩,
        ⟨some 19, .bin .ne, [.t 16, .t 18], none⟩] [2, 3, 19] [2, 3])
      (.cond (.t 19)
       (.seq
        (.reg [] [⟨some 4, .move, [.k (.b false)], none⟩] [4] [])
        .ret)
       .skip))
     (.seq
      (.seq
       (.reg [] [⟨some 20, .faddr 3, [.t 2], none⟩,
         ⟨some 21, .load none false, [.t 20], none⟩,
         ⟨some 22, .faddr 3, [.t 3], none⟩,
         ⟨some 23, .load none false, [.t 22], none⟩,
         ⟨some 24, .call [] false, [.f 82, .t 21, .t 23], none⟩,
         ⟨some 25, .not, [.t 24], none⟩] [25] [])
       (.cond (.t 25)
        (.seq
         (.reg [] [⟨some 4, .move, [.k (.b false)], none⟩] [4] [])
         .ret)
        .skip))
      (.seq
       (.reg [] [⟨some 4, .move, [.k (.b true)], none⟩] [4] [])
       .ret))))))
def a137 : AF := ⟨c137, [.tmp 4]⟩
def b82l0 : AC :=
 (.seq
  (.seq
   (.reg [] [⟨some 11, .move, [.t 5], none⟩,
     ⟨some 12, .move, [.t 0], none⟩,
     ⟨some 13, .len, [.t 12], none⟩,
     ⟨some 14, .bin .lt, [.t 11, .t 13], none⟩] [0, 1, 5, 14] [])
   (.cond (.t 14)
    .skip
    (.exit 0)))
  (.seq
   (.block 1
    (.seq
     (.reg [0, 1, 2, 3, 4, 5, 6, 7, 8, 9] [⟨some 17, .move, [.t 0], none⟩,
       ⟨some 18, .move, [.t 5], none⟩,
       ⟨some 19, .iaddr 4, [.t 17, .t 18], none⟩,
       ⟨some 20, .load (some 4) false, [.t 19], none⟩,
       ⟨some 21, .move, [.t 1], none⟩,
       ⟨some 22, .move, [.t 5], none⟩,
       ⟨some 23, .iaddr 4, [.t 21, .t 22], none⟩,
       ⟨some 24, .load (some 4) false, [.t 23], none⟩,
       ⟨some 25, .call [] false, [.f 137, .t 20, .t 24], none⟩,
       ⟨some 26, .not, [.t 25], none⟩] [0, 1, 5, 26] [])
     (.cond (.t 26)
      (.seq
       (.reg [] [⟨some 4, .move, [.k (.b false)], none⟩] [4] [])
       .ret)
      .skip)))
   (.reg [] [⟨some 15, .move, [.t 5], none⟩,
     ⟨some 16, .bin .add, [.t 15, .k (.i 1)], none⟩,
     ⟨some 5, .move, [.t 16], none⟩] [0, 1, 5] [])))
def c82l0 : AC := b82l0
theorem r82l0 (call lp s) : run call lp c82l0 s = run call lp b82l0 s := rfl
/-- laws.eqPiS -/
def c82 : AC :=
 (.seq
  (.reg [] [⟨some 4, .move, [.k (.b false)], none⟩] [0, 1] [])
  (.seq
   (.seq
    (.reg [] [⟨some 6, .move, [.t 0], none⟩,
      ⟨some 7, .len, [.t 6], none⟩,
      ⟨some 8, .move, [.t 1], none⟩,
      ⟨some 9, .len, [.t 8], none⟩,
      ⟨some 10, .bin .ne, [.t 7, .t 9], none⟩] [0, 1, 10] [])
    (.cond (.t 10)
     (.seq
      (.reg [] [⟨some 4, .move, [.k (.b false)], none⟩] [4] [])
      .ret)
     .skip))
   (.seq
    (.seq
     (.reg [] [⟨some 5, .move, [.k (.i 0)], none⟩] [0, 1, 5] [])
     (.block 0
      (.loop [0, 1, 5] [] c82l0)))
    (.seq
     (.reg [] [⟨some 4, .move, [.k (.b true)], none⟩] [4] [])
     .ret))))
def a82 : AF := ⟨c82, [.tmp 4]⟩
/-- laws.eqPool -/
def c31 : AC :=
 (.seq
  (.reg [] [⟨some 2, .box, [.t 0], none⟩,
    ⟨some 3, .box, [.t 1], none⟩,
    ⟨some 4, .move, [.k (.b false)], none⟩] [2, 3] [2, 3])
  (.seq
   (.seq
    (.reg [] [⟨some 5, .faddr 0, [.t 2], none⟩,
      ⟨some 6, .load none false, [.t 5], none⟩,
      ⟨some 7, .faddr 0, [.t 3], none⟩,
      ⟨some 8, .load none false, [.t 7], none⟩,
      ⟨some 9, .call [] false, [.f 32, .t 6, .t 8], none⟩,
      ⟨some 10, .not, [.t 9], none⟩] [2, 3, 10] [2, 3])
    (.cond (.t 10)
     (.seq
      (.reg [] [⟨some 4, .move, [.k (.b false)], none⟩] [4] [])
      .ret)
     .skip))
   (.seq
    (.seq
     (.reg [] [⟨some 11, .faddr 1, [.t 2], none⟩,
       ⟨some 12, .load none false, [.t 11], none⟩,
       ⟨some 13, .faddr 1, [.t 3], none⟩,
       ⟨some 14, .load none false, [.t 13], none⟩,
       ⟨some 15, .call [] false, [.f 82, .t 12, .t 14], none⟩,
       ⟨some 16, .not, [.t 15], none⟩] [16] [])
     (.cond (.t 16)
      (.seq
       (.reg [] [⟨some 4, .move, [.k (.b false)], none⟩] [4] [])
       .ret)
      .skip))
    (.seq
     (.reg [] [⟨some 4, .move, [.k (.b true)], none⟩] [4] [])
     .ret))))
def a31 : AF := ⟨c31, [.tmp 4]⟩
/-- laws.FnExactPoolSorted -/
def c4 : AC :=
 (.seq
  (.reg [] [⟨some 3, .box, [.t 0], none⟩,
    ⟨some 6, .move, [.k (.b false)], none⟩] [1, 2, 3] [3])
  (.seq
   (.seq
    (.reg [] [⟨some 13, .move, [.t 1], none⟩,
      ⟨some 14, .len, [.t 13], none⟩,
      ⟨some 15, .bin .gt, [.t 14, .k (.i 1048576)], none⟩] [1, 2, 3, 15] [3])
    (.cond (.t 15)
     (.seq
      (.reg [] [⟨some 6, .move, [.k (.b true)], none⟩] [6] [])
      .ret)
     .skip))
   (.seq
    (.seq
     (.reg [] [⟨some 16, .move, [.t 2], none⟩,
       ⟨some 17, .len, [.t 16], none⟩,
       ⟨some 18, .bin .gt, [.t 17, .k (.i 1048576)], none⟩] [1, 2, 3, 18] [3])
     (.cond (.t 18)
      (.seq
       (.reg [] [⟨some 6, .move, [.k (.b true)], none⟩] [6] [])
       .ret)
      .skip))
    (.seq
     (.reg [] [⟨some 7, .move, [.k (.i 1048576)], none⟩] [1, 2, 3, 7] [3])
     (.seq
      (.reg [] [⟨some 19, .load (some 2) false, [.t 3], none⟩,
        ⟨some 20, .move, [.t 7], none⟩,
        ⟨some 21, .call [] false, [.f 26, .t 19, .t 20], none⟩,
        ⟨some 7, .move, [.t 21], none⟩] [1, 2, 3, 7] [3])
      (.seq
       (.seq
        (.reg [] [⟨some 22, .move, [.t 7], none⟩,
          ⟨some 23, .bin .lt, [.t 22, .k (.i 0)], none⟩] [1, 2, 3, 23] [3])
        (.cond (.t 23)
         (.seq
          (.reg [] [⟨some 6, .move, [.k (.b true)], none⟩] [6] [])
          .ret)
         .skip))
       (.seq
        (.reg [] [⟨some 24, .load (some 2) false, [.t 3], none⟩,
          ⟨some 25, .call [] false, [.f 28, .t 24], none⟩,
          ⟨some 26, .move, [.t 1], none⟩,
          ⟨some 27, .call [] false, [.f 29, .t 26], none⟩,
          ⟨some 28, .move, [.t 2], none⟩,
          ⟨some 29, .call [] false, [.f 29, .t 28], none⟩,
          ⟨some 30, .call [] false, [.f 27, .t 25, .t 27, .t 29], none⟩,
          ⟨some 8, .move, [.t 30], none⟩] [1, 2, 3, 8] [3])
        (.seq
         (.reg [] [⟨some 31, .load (some 2) false, [.t 3], none⟩,
           ⟨some 32, .call [] false, [.f 28, .t 31], none⟩,
           ⟨some 9, .alloc [.nils, .nils], [], none⟩,
           ⟨none, .store 2 true, [.t 9, .t 32], none⟩] [1, 2, 3, 8, 9] [3, 9, 32, 1032])
         (.seq
          (.reg [] [⟨some 33, .move, [.t 1], none⟩,
            ⟨some 34, .call [] false, [.f 29, .t 33], none⟩,
            ⟨some 10, .move, [.t 34], none⟩] [1, 2, 3, 8, 9, 10] [3, 9, 32, 34, 1032])
          (.seq
           (.reg [] [⟨some 35, .move, [.t 2], none⟩,
             ⟨some 36, .call [] false, [.f 29, .t 35], none⟩,
             ⟨some 11, .move, [.t 36], none⟩] [1, 2, 3, 8, 9, 10, 11] [3, 9, 32, 34, 36, 1032])
           (.seq
            (.reg [] [⟨some 37, .load (some 2) false, [.t 9], none⟩,
              ⟨some 38, .move, [.t 10], none⟩,
              ⟨some 39, .move, [.t 11], none⟩,
              ⟨some 40, .call [] false, [.f 30, .t 37, .t 38, .t 39], none⟩,
              ⟨some 12, .move, [.t 40], none⟩] [1, 2, 3, 8, 9, 10, 11, 12] [3, 9, 32, 34, 36, 1032])
            (.seq
             (.seq
              (.reg [] [⟨some 41, .move, [.t 12], none⟩,
                ⟨some 42, .move, [.t 8], none⟩,
                ⟨some 43, .bne, [.t 41, .t 42], none⟩] [1, 2, 3, 9, 10, 11, 43] [3, 9, 32, 34, 36, 1032])
              (.cond (.t 43)
               (.seq
                (.reg [] [⟨some 6, .move, [.k (.b false)], none⟩] [6] [])
                .ret)
               .skip))
             (.seq
              (.seq
               (.reg [0, 1, 2, 4, 5] [⟨some 44, .load (some 2) false, [.t 9], none⟩,
                 ⟨some 45, .load (some 2) false, [.t 3], none⟩,
                 ⟨some 46, .call [] false, [.f 28, .t 45], none⟩,
                 ⟨none, .chk (.load (some 2) false), [.t 44, .t 9], none⟩,
                 ⟨some 47, .call [] false, [.f 31, .t 44, .t 46], none⟩,
                 ⟨some 48, .not, [.t 47], none⟩] [1, 2, 10, 11, 48] [34, 36])
               (.cond (.t 48)
                (.seq
                 (.reg [] [⟨some 6, .move, [.k (.b false)], none⟩] [6] [])
                 .ret)
                .skip))
              (.seq
               (.seq
                (.reg [] [⟨some 49, .move, [.t 10], none⟩,
                  ⟨some 50, .move, [.t 1], none⟩,
                  ⟨some 51, .call [] false, [.f 29, .t 50], none⟩,
                  ⟨some 52, .call [] false, [.f 32, .t 49, .t 51], none⟩,
                  ⟨some 53, .not, [.t 52], none⟩] [2, 11, 53] [36])
                (.cond (.t 53)
                 (.seq
                  (.reg [] [⟨some 6, .move, [.k (.b false)], none⟩] [6] [])
                  .ret)
                 .skip))
               (.seq
                (.seq
                 (.reg [] [⟨some 54, .move, [.t 11], none⟩,
                   ⟨some 55, .move, [.t 2], none⟩,
                   ⟨some 56, .call [] false, [.f 29, .t 55], none⟩,
                   ⟨some 57, .call [] false, [.f 32, .t 54, .t 56], none⟩,
                   ⟨some 58, .not, [.t 57], none⟩] [58] [])
                 (.cond (.t 58)
                  (.seq
                   (.reg [] [⟨some 6, .move, [.k (.b false)], none⟩] [6] [])
                   .ret)
                  .skip))
                (.seq
                 (.reg [] [⟨some 6, .move, [.k (.b true)], none⟩] [6] [])
                 .ret))))))))))))))))
def a4 : AF := ⟨c4, [.tmp 6]⟩
theorem ok70 : okF Try.prog 70 a70 = true := by kernel_rfl
theorem ok126 : okF Try.prog 126 a126 = true := by kernel_rfl
theorem ok71 : okF Try.prog 71 a71 = true := by kernel_rfl
theorem ok26 : okF Try.prog 26 a26 = true := by kernel_rfl
theorem ok29 : okF Try.prog 29 a29 = true := by kernel_rfl
theorem ok130 : okF Try.prog 130 a130 = true := by kernel_rfl
theorem ok75 : okF Try.prog 75 a75 = true := by kernel_rfl
theorem ok28 : okF Try.prog 28 a28 = true := by kernel_rfl
theorem ok60 : okF Try.prog 60 a60 = true := by kernel_rfl
theorem ok171 : okF Try.prog 171 a171 = true := by kernel_rfl
theorem ok155 : okF Try.prog 155 a155 = true := by kernel_rfl
theorem ok127 : okF Try.prog 127 a127 = true := by kernel_rfl
theorem ok128 : okF Try.prog 128 a128 = true := by kernel_rfl
theorem ok156 : okF Try.prog 156 a156 = true := by kernel_rfl
theorem ok157 : okF Try.prog 157 a157 = true := by kernel_rfl
theorem ok129 : okF Try.prog 129 a129 = true := by kernel_rfl
theorem ok72 : okF Try.prog 72 a72 = true := by kernel_rfl
theorem ok73 : okF Try.prog 73 a73 = true := by kernel_rfl
theorem ok74 : okF Try.prog 74 a74 = true := by kernel_rfl
theorem ok27 : okF Try.prog 27 a27 = true := by kernel_rfl
theorem ok172 : okF Try.prog 172 a172 = true := by kernel_rfl
theorem ok199 : okF Try.prog 199 a199 = true := by kernel_rfl
theorem ok135 : okF Try.prog 135 a135 = true := by kernel_rfl
theorem ok79 : okF Try.prog 79 a79 = true := by kernel_rfl
theorem ok200 : okF Try.prog 200 a200 = true := by kernel_rfl
theorem ok173 : okF Try.prog 173 a173 = true := by kernel_rfl
theorem ok158 : okF Try.prog 158 a158 = true := by kernel_rfl
theorem ok174 : okF Try.prog 174 a174 = true := by kernel_rfl
theorem ok175 : okF Try.prog 175 a175 = true := by kernel_rfl
theorem ok159 : okF Try.prog 159 a159 = true := by kernel_rfl
theorem ok132 : okF Try.prog 132 a132 = true := by kernel_rfl
theorem ok131 : okF Try.prog 131 a131 = true := by kernel_rfl
theorem ok76 : okF Try.prog 76 a76 = true := by kernel_rfl
theorem ok160 : okF Try.prog 160 a160 = true := by kernel_rfl
theorem ok133 : okF Try.prog 133 a133 = true := by kernel_rfl
theorem ok134 : okF Try.prog 134 a134 = true := by kernel_rfl
theorem ok77 : okF Try.prog 77 a77 = true := by kernel_rfl
theorem ok78 : okF Try.prog 78 a78 = true := by kernel_rfl
theorem ok136 : okF Try.prog 136 a136 = true := by kernel_rfl
theorem ok81 : okF Try.prog 81 a81 = true := by kernel_rfl
theorem ok80 : okF Try.prog 80 a80 = true := by kernel_rfl
theorem ok30 : okF Try.prog 30 a30 = true := by kernel_rfl
theorem ok32 : okF Try.prog 32 a32 = true := by kernel_rfl
theorem ok137 : okF Try.prog 137 a137 = true := by kernel_rfl
theorem ok82 : okF Try.prog 82 a82 = true := by kernel_rfl
theorem ok31 : okF Try.prog 31 a31 = true := by kernel_rfl
theorem ok4 : okF Try.prog 4 a4 = true := by kernel_rfl
def codes : Nat → Option AF
  | 70 => some a70
  | 126 => some a126
  | 71 => some a71
  | 26 => some a26
  | 29 => some a29
  | 130 => some a130
  | 75 => some a75
  | 28 => some a28
  | 60 => some a60
  | 171 => some a171
  | 155 => some a155
  | 127 => some a127
  | 128 => some a128
  | 156 => some a156
  | 157 => some a157
  | 129 => some a129
  | 72 => some a72
  | 73 => some a73
  | 74 => some a74
  | 27 => some a27
  | 172 => some a172
  | 199 => some a199
  | 135 => some a135
  | 79 => some a79
  | 200 => some a200
  | 173 => some a173
  | 158 => some a158
  | 174 => some a174
  | 175 => some a175
  | 159 => some a159
  | 132 => some a132
  | 131 => some a131
  | 76 => some a76
  | 160 => some a160
  | 133 => some a133
  | 134 => some a134
  | 77 => some a77
  | 78 => some a78
  | 136 => some a136
  | 81 => some a81
  | 80 => some a80
  | 30 => some a30
  | 32 => some a32
  | 137 => some a137
  | 82 => some a82
  | 31 => some a31
  | 4 => some a4
  | _ => none
def G : Prog := ⟨codes, fun _ => none⟩
@[simp] theorem g70 : G.code 70 = some a70 := rfl
@[simp] theorem g126 : G.code 126 = some a126 := rfl
@[simp] theorem g71 : G.code 71 = some a71 := rfl
@[simp] theorem g26 : G.code 26 = some a26 := rfl
@[simp] theorem g29 : G.code 29 = some a29 := rfl
@[simp] theorem g130 : G.code 130 = some a130 := rfl
@[simp] theorem g75 : G.code 75 = some a75 := rfl
@[simp] theorem g28 : G.code 28 = some a28 := rfl
@[simp] theorem g60 : G.code 60 = some a60 := rfl
@[simp] theorem g171 : G.code 171 = some a171 := rfl
@[simp] theorem g155 : G.code 155 = some a155 := rfl
@[simp] theorem g127 : G.code 127 = some a127 := rfl
@[simp] theorem g128 : G.code 128 = some a128 := rfl
@[simp] theorem g156 : G.code 156 = some a156 := rfl
@[simp] theorem g157 : G.code 157 = some a157 := rfl
@[simp] theorem g129 : G.code 129 = some a129 := rfl
@[simp] theorem g72 : G.code 72 = some a72 := rfl
@[simp] theorem g73 : G.code 73 = some a73 := rfl
@[simp] theorem g74 : G.code 74 = some a74 := rfl
@[simp] theorem g27 : G.code 27 = some a27 := rfl
@[simp] theorem g172 : G.code 172 = some a172 := rfl
@[simp] theorem g199 : G.code 199 = some a199 := rfl
@[simp] theorem g135 : G.code 135 = some a135 := rfl
@[simp] theorem g79 : G.code 79 = some a79 := rfl
@[simp] theorem g200 : G.code 200 = some a200 := rfl
@[simp] theorem g173 : G.code 173 = some a173 := rfl
@[simp] theorem g158 : G.code 158 = some a158 := rfl
@[simp] theorem g174 : G.code 174 = some a174 := rfl
@[simp] theorem g175 : G.code 175 = some a175 := rfl
@[simp] theorem g159 : G.code 159 = some a159 := rfl
@[simp] theorem g132 : G.code 132 = some a132 := rfl
@[simp] theorem g131 : G.code 131 = some a131 := rfl
@[simp] theorem g76 : G.code 76 = some a76 := rfl
@[simp] theorem g160 : G.code 160 = some a160 := rfl
@[simp] theorem g133 : G.code 133 = some a133 := rfl
@[simp] theorem g134 : G.code 134 = some a134 := rfl
@[simp] theorem g77 : G.code 77 = some a77 := rfl
@[simp] theorem g78 : G.code 78 = some a78 := rfl
@[simp] theorem g136 : G.code 136 = some a136 := rfl
@[simp] theorem g81 : G.code 81 = some a81 := rfl
@[simp] theorem g80 : G.code 80 = some a80 := rfl
@[simp] theorem g30 : G.code 30 = some a30 := rfl
@[simp] theorem g32 : G.code 32 = some a32 := rfl
@[simp] theorem g137 : G.code 137 = some a137 := rfl
@[simp] theorem g82 : G.code 82 = some a82 := rfl
@[simp] theorem g31 : G.code 31 = some a31 := rfl
@[simp] theorem g4 : G.code 4 = some a4 := rfl
@[simp] theorem gp (n : Nat) : G.prim n = none := rfl
theorem progOK : ProgOK Try.prog G := by
  refine ⟨by kernel_rfl, fun f af _ h => ?_, fun f p h => by cases h⟩
  simp only [G] at h
  unfold codes at h
  split at h
  · cases h; exact ok70
  · cases h; exact ok126
  · cases h; exact ok71
  · cases h; exact ok26
  · cases h; exact ok29
  · cases h; exact ok130
  · cases h; exact ok75
  · cases h; exact ok28
  · cases h; exact ok60
  · cases h; exact ok171
  · cases h; exact ok155
  · cases h; exact ok127
  · cases h; exact ok128
  · cases h; exact ok156
  · cases h; exact ok157
  · cases h; exact ok129
  · cases h; exact ok72
  · cases h; exact ok73
  · cases h; exact ok74
  · cases h; exact ok27
  · cases h; exact ok172
  · cases h; exact ok199
  · cases h; exact ok135
  · cases h; exact ok79
  · cases h; exact ok200
  · cases h; exact ok173
  · cases h; exact ok158
  · cases h; exact ok174
  · cases h; exact ok175
  · cases h; exact ok159
  · cases h; exact ok132
  · cases h; exact ok131
  · cases h; exact ok76
  · cases h; exact ok160
  · cases h; exact ok133
  · cases h; exact ok134
  · cases h; exact ok77
  · cases h; exact ok78
  · cases h; exact ok136
  · cases h; exact ok81
  · cases h; exact ok80
  · cases h; exact ok30
  · cases h; exact ok32
  · cases h; exact ok137
  · cases h; exact ok82
  · cases h; exact ok31
  · cases h; exact ok4
  · cases h
end Go.Am
end
